/- Layer 5: plain: sectors of a batch, torn ones.; Layer 5: plain: the scan of a half of which some sectors were written.; Layer 5: plain: which half counts.; Layer 5: plain: a batch, cut off or whole; a crash.; Layer 5: plain: a journal and its disk: what is added, what takes the place of all. -/
import Derived.Test.YtnmbmccigpljnaaJoH
namespace Go.Proofs.Ytnmbmccigpljnaa.GL
open Go Go.RowKit
set_option maxRecDepth 10000
set_option pp.deepTerms.threshold 8
set_option pp.maxSteps 3000
set_option linter.unusedSimpArgs false
set_option linter.unusedVariables false

theorem Sec.eq {s s' : Sec} (h : s.b = s'.b) : s = s' := by cases s; cases s'; simp_all
theorem sectorB_len (n i ct : Nat) {x : List UInt8} (hx : x.length ≤ 51) : (sectorB n i ct x).length = 64 := by
  unfold sectorB; simp [bytesL_len]; omega
def newS (n i ct : Nat) (x : List UInt8) : Sec := secOf (sectorB n i ct x)
theorem newS_b (n i ct : Nat) {x : List UInt8} (hx : x.length ≤ 51) : (newS n i ct x).b = sectorB n i ct x := by
  have h := sectorB_len n i ct hx
  show (sectorB n i ct x ++ List.replicate 64 0).take 64 = _
  rw [List.take_append, h, List.take_of_length_le (by omega)]
  simp
theorem at_mid {α : Type} {A B C X : List α} {i k : Nat} (e : X = A ++ (B ++ C)) (hi : A.length = i) (hk : B.length = k) : (X.drop i).take k = B := by
  subst e hi hk; simp
section
variable {n i ct : Nat} {x : List UInt8} (hx : x.length ≤ 51)
include hx
theorem newS_hn (hn : n < 4294967296) : (newS n i ct x).hn = n := by
  unfold Sec.hn
  rw [newS_b n i ct hx]
  have e : (sectorB n i ct x).take 4 = bytesL n 4 := at_mid (i := 0) (A := []) (B := bytesL n 4) (C := bytesL i 2 ++ bytesL ct 2 ++ [UInt8.ofNat x.length] ++ x ++ List.replicate (51 - x.length) 0 ++ bytesL n 4) (by simp [sectorB]) rfl (bytesL_len _ _)
  rw [e]; exact numN_bytes n 4 (by decide) hn
theorem newS_tn (hn : n < 4294967296) : (newS n i ct x).tn = n := by
  unfold Sec.tn
  rw [newS_b n i ct hx]
  have e : (sectorB n i ct x).drop 60 = bytesL n 4 := by
    have h0 : (bytesL n 4 ++ bytesL i 2 ++ bytesL ct 2 ++ [UInt8.ofNat x.length] ++ x ++ List.replicate (51 - x.length) 0).length = 60 := by simp [bytesL_len]; omega
    unfold sectorB
    rw [List.drop_append, h0, List.drop_of_length_le (by omega)]
    simp
  rw [e]; exact numN_bytes n 4 (by decide) hn
theorem newS_pl (hi : i < 65536) : (newS n i ct x).pl = i := by
  unfold Sec.pl
  rw [newS_b n i ct hx, at_mid (A := bytesL n 4) (B := bytesL i 2) (C := bytesL ct 2 ++ [UInt8.ofNat x.length] ++ x ++ List.replicate (51 - x.length) 0 ++ bytesL n 4) (by simp [sectorB]) (bytesL_len _ _) (bytesL_len _ _)]
  exact numN_bytes i 2 (by decide) hi
theorem newS_ct (hi : ct < 65536) : (newS n i ct x).ct = ct := by
  unfold Sec.ct
  rw [newS_b n i ct hx, at_mid (A := bytesL n 4 ++ bytesL i 2) (B := bytesL ct 2) (C := [UInt8.ofNat x.length] ++ x ++ List.replicate (51 - x.length) 0 ++ bytesL n 4) (by simp [sectorB]) (by simp [bytesL_len]) (bytesL_len _ _)]
  exact numN_bytes ct 2 (by decide) hi
theorem newS_sz : (newS n i ct x).sz = x.length := by
  unfold Sec.sz
  have e : (sectorB n i ct x)[8]? = some (UInt8.ofNat x.length) := by
    have h0 : (bytesL n 4 ++ bytesL i 2 ++ bytesL ct 2).length = 8 := by simp [bytesL_len]
    have e2 : sectorB n i ct x = (bytesL n 4 ++ bytesL i 2 ++ bytesL ct 2) ++ ([UInt8.ofNat x.length] ++ (x ++ List.replicate (51 - x.length) 0 ++ bytesL n 4)) := by simp [sectorB]
    rw [e2, List.getElem?_append_right (by omega), h0]; rfl
  rw [newS_b n i ct hx, List.getD_eq_getElem?_getD, e, Option.getD_some, UInt8.toNat_ofNat']
  exact Nat.mod_eq_of_lt (by omega)
theorem newS_ok (hn : n < 4294967296) (h0 : n ≠ 0) : (newS n i ct x).ok := by
  refine ⟨?_, ?_, ?_⟩
  · rw [newS_hn hx hn, newS_tn hx hn]
  · rw [newS_hn hx hn]; exact h0
  · rw [newS_sz hx]; exact hx
theorem newS_pc (hn : n < 4294967296) (h0 : n ≠ 0) (hi : i < 65536) (hc : ct < 65536) : (newS n i ct x).pc = ⟨n, i, ct, x⟩ := by
  unfold Sec.pc
  rw [if_pos (newS_ok hx hn h0), newS_hn hx hn, newS_pl hx hi, newS_ct hx hc, newS_sz hx, newS_b n i ct hx]
  congr 1
  exact at_mid (A := bytesL n 4 ++ bytesL i 2 ++ bytesL ct 2 ++ [UInt8.ofNat x.length]) (B := x) (C := List.replicate (51 - x.length) 0 ++ bytesL n 4) (by simp [sectorB]) (by simp [bytesL_len]) rfl
end
theorem pc_n_ok {s : Sec} (h : s.ok) : s.pc.n = s.hn := by unfold Sec.pc; rw [if_pos h]
/-- Four bytes of a small number. -/
theorem four_small {l : List UInt8} (hl : l.length = 4) (h : numN l < 256) : ∃ z : UInt8, l = [0, 0, 0, z] ∧ numN l = z.toNat := by
  match l, hl with
  | [a, b, c, d], _ =>
    have ha := a.toNat_lt
    have hb := b.toNat_lt
    have hc := c.toNat_lt
    have hd := d.toNat_lt
    have e : numN [a, b, c, d] = ((a.toNat * 256 + b.toNat) * 256 + c.toNat) * 256 + d.toNat := by
      simp only [numN, numB, numGo]
      rw [if_neg (by omega), if_neg (by omega), if_neg (by omega), if_neg (by omega)]
      simp
    rw [e] at h ⊢
    have h1 : a = 0 := UInt8.toNat_inj.1 (by simp; omega)
    have h2 : b = 0 := UInt8.toNat_inj.1 (by simp; omega)
    have h3 : c = 0 := UInt8.toNat_inj.1 (by simp; omega)
    subst h1 h2 h3
    exact ⟨d, rfl, by simp⟩
theorem take_app4 {α : Type} {A B : List α} {k : Nat} (h : A.length = k) : (A ++ B).take k = A := by subst h; simp
/-- What a crash may leave of a sector: it was, it is to be, or none. -/
theorem torn_cases {old : Sec} {n i ct : Nat} {x : List UInt8} (hx : x.length ≤ 51) (t : Nat) (h1 : old.hn < n) (h2 : old.tn < n) (hn : n < 256) :
    tornS old (newS n i ct x) t = old ∨ tornS old (newS n i ct x) t = newS n i ct x ∨ (¬ (tornS old (newS n i ct x) t).ok ∧ (tornS old (newS n i ct x) t).hn ≤ n ∧ (tornS old (newS n i ct x) t).tn ≤ n) := by
  obtain ⟨z, hz, _⟩ := four_small (l := old.b.take 4) (by simp [old.len]) (show old.hn < 256 by omega)
  obtain ⟨y, hy, _⟩ := four_small (l := old.b.drop 60) (by simp [old.len]) (show old.tn < 256 by omega)
  have hN : (newS n i ct x).hn = n := newS_hn hx (by omega)
  have hT : (newS n i ct x).tn = n := newS_tn hx (by omega)
  obtain ⟨z', hz', _⟩ := four_small (l := (newS n i ct x).b.take 4) (by simp [(newS n i ct x).len]) (show (newS n i ct x).hn < 256 by omega)
  obtain ⟨y', hy', _⟩ := four_small (l := (newS n i ct x).b.drop 60) (by simp [(newS n i ct x).len]) (show (newS n i ct x).tn < 256 by omega)
  generalize newS n i ct x = new at *
  by_cases ht : t ≤ 3
  · left
    apply Sec.eq
    show new.b.take t ++ old.b.drop t = old.b
    have e : new.b.take t = old.b.take t := by
      have a1 : new.b.take t = (new.b.take 4).take t := by rw [List.take_take, Nat.min_eq_left (by omega)]
      have a2 : old.b.take t = (old.b.take 4).take t := by rw [List.take_take, Nat.min_eq_left (by omega)]
      rw [a1, a2, hz, hz']
      have : t = 0 ∨ t = 1 ∨ t = 2 ∨ t = 3 := by omega
      rcases this with rfl | rfl | rfl | rfl <;> rfl
    rw [e, List.take_append_drop]
  by_cases ht2 : 64 ≤ t
  · right; left
    exact torn_all _ _ _ ht2
  right; right
  have f1 : (tornS old new t).hn = n := by
    show numN ((new.b.take t ++ old.b.drop t).take 4) = n
    rw [List.take_append, List.take_take, Nat.min_eq_left (by omega), List.length_take, new.len, Nat.min_eq_left (by omega), show 4 - t = 0 by omega, List.take_zero, List.append_nil]
    exact hN
  have f2 : (tornS old new t).tn = old.tn := by
    show numN ((new.b.take t ++ old.b.drop t).drop 60) = numN (old.b.drop 60)
    congr 1
    rw [List.drop_append, List.length_take, new.len, Nat.min_eq_left (by omega), List.drop_drop]
    by_cases h60 : t ≤ 60
    · rw [List.drop_of_length_le (by simp; omega), List.nil_append]
      congr 1; omega
    · have a1 : (new.b.take t).drop 60 = (new.b.drop 60).take (t - 60) := by rw [List.drop_take]
      have a2 : old.b.drop (t + (60 - t)) = (old.b.drop 60).drop (t - 60) := by rw [List.drop_drop]; congr 1; omega
      rw [a1, a2, hy, hy']
      have : t - 60 = 1 ∨ t - 60 = 2 ∨ t - 60 = 3 := by omega
      rcases this with e | e | e <;> rw [e] <;> rfl
  refine ⟨fun hok => ?_, by omega, by omega⟩
  have := hok.1
  omega
theorem secs0_hn (s : Sec) (h : s = secOf []) : s.hn = 0 ∧ s.tn = 0 := by
  subst h; constructor <;> rfl
end Go.Proofs.Ytnmbmccigpljnaa.GL

namespace Go.Proofs.Ytnmbmccigpljnaa.GL
open Go Go.RowKit
set_option maxRecDepth 10000
set_option pp.deepTerms.threshold 8
set_option pp.maxSteps 3000
set_option linter.unusedSimpArgs false
set_option linter.unusedVariables false

/-- Some sectors of a batch were written: each is as it was, or new, or none. -/
structure Mix (l l' : List Sec) (at0 n ct : Nat) (bs : List UInt8) : Prop where
  len : l'.length = l.length
  each : ∀ i s', l'[i]? = some s' → l[i]? = some s' ∨ (at0 ≤ i ∧ i < at0 + ct ∧ (s' = newS n (i - at0) ct (partB bs (i - at0)) ∨ (¬ s'.ok ∧ s'.hn ≤ n ∧ s'.tn ≤ n)))
def AllNew (l' : List Sec) (at0 n ct : Nat) (bs : List UInt8) : Prop := ∀ j, j < ct → l'[at0 + j]? = some (newS n j ct (partB bs j))
def Low (l : List Sec) (n : Nat) : Prop := ∀ s ∈ l, s.hn < n ∧ s.tn < n
theorem partB_le (bs : List UInt8) (i : Nat) : (partB bs i).length ≤ 51 := by unfold partB; simp; omega
theorem parts_take (bs : List UInt8) (k : Nat) : bs.take (k * 51) ++ partB bs k = bs.take ((k + 1) * 51) := by
  unfold partB
  rw [show (k + 1) * 51 = k * 51 + 51 by omega, List.take_add]
theorem secsN_le (bs : List UInt8) : bs.length ≤ secsN bs.length * 51 := by unfold secsN; omega
theorem secsN_pos (n : Nat) : 0 < secsN n := by unfold secsN; omega
theorem step_three {k : Nat} {z : Sst} {s : Sec} : ((scanStep k z s).first = z.first ∧ (scanStep k z s).used = z.used ∧ (scanStep k z s).b = z.b) ∨ ((scanStep k z s).used = k + 1 ∧ (scanStep k z s).done = false ∧ (scanStep k z s).prev.pl + 1 = (scanStep k z s).prev.ct ∧ (scanStep k z s).first = (if z.first = 0 then s.hn else z.first) ∧ s.hn ≠ 0 ∧ (scanStep k z s).prev = s.pc) := by
  unfold scanStep
  by_cases hb : badZ k z s = true
  · rw [if_pos hb]; exact .inl ⟨rfl, rfl, rfl⟩
  · rw [if_neg hb]
    have hok : s.ok := by
      unfold badZ at hb
      simp at hb
      exact hb.1.1.2
    simp only
    by_cases hp : s.pc.pl + 1 = s.pc.ct
    · rw [if_pos hp]
      refine .inr ⟨rfl, rfl, hp, ?_, hok.2.1, rfl⟩
      simp only [pc_n_ok hok]
    · rw [if_neg hp]; exact .inl ⟨rfl, rfl, rfl⟩
theorem used_le (l : List Sec) : ∀ k, (scanTo l k).used ≤ k
  | 0 => Nat.le_refl _
  | k + 1 => by
    have ih := used_le l k
    cases h : l[k]? with
    | none => simp only [scanTo, h]; omega
    | some s =>
      rw [scanTo_succ h]
      rcases step_three (k := k) (z := scanTo l k) (s := s) with ⟨_, h2, _⟩ | ⟨h2, _⟩ <;> omega
/-- Since the last whole batch nothing is new. -/
theorem three_same (l : List Sec) : ∀ m k, (scanTo l m).used ≤ k → k ≤ m → (scanTo l k).first = (scanTo l m).first ∧ (scanTo l k).used = (scanTo l m).used ∧ (scanTo l k).b = (scanTo l m).b
  | 0, k, h1, h2 => by
    have : k = 0 := by omega
    subst this; exact ⟨rfl, rfl, rfl⟩
  | m + 1, k, h1, h2 => by
    by_cases hk : k = m + 1
    · subst hk; exact ⟨rfl, rfl, rfl⟩
    · have ih := three_same l m k
      cases h : l[m]? with
      | none =>
        have e : scanTo l (m + 1) = scanTo l m := by simp only [scanTo, h]
        rw [e] at h1 ⊢
        exact ih h1 (by omega)
      | some s =>
        rw [scanTo_succ h] at h1 ⊢
        rcases step_three (k := m) (z := scanTo l m) (s := s) with ⟨e1, e2, e3⟩ | ⟨e2, _⟩
        · rw [e1, e2, e3]; rw [e2] at h1; exact ih h1 (by omega)
        · omega
/-- Where the last whole batch ends. -/
theorem clean_at (l : List Sec) : ∀ m, (scanTo l m).used = 0 ∨ ((scanTo l (scanTo l m).used).done = false ∧ (scanTo l (scanTo l m).used).prev.pl + 1 = (scanTo l (scanTo l m).used).prev.ct)
  | 0 => .inl rfl
  | m + 1 => by
    cases h : l[m]? with
    | none =>
      have e : scanTo l (m + 1) = scanTo l m := by simp only [scanTo, h]
      rw [e]; exact clean_at l m
    | some s =>
      have hs := scanTo_succ h
      rcases step_three (k := m) (z := scanTo l m) (s := s) with ⟨e1, e2, e3⟩ | ⟨e2, e3, e4, _⟩
      · rw [hs, e2]; exact clean_at l m
      · right
        rw [hs, e2, hs]
        exact ⟨e3, e4⟩
theorem first_stays (l : List Sec) (k : Nat) (hk : (scanTo l k).first ≠ 0) : ∀ j, (scanTo l (k + j)).first = (scanTo l k).first
  | 0 => rfl
  | j + 1 => by
    have ih := first_stays l k hk j
    cases h : l[k + j]? with
    | none => 
      show (scanTo l (k + j + 1)).first = _
      simp only [scanTo, h]; exact ih
    | some s =>
      show (scanTo l (k + j + 1)).first = _
      rw [scanTo_succ h]
      rcases step_three (k := k + j) (z := scanTo l (k + j)) (s := s) with ⟨e1, _, _⟩ | ⟨_, _, _, e1, _⟩
      · rw [e1, ih]
      · rw [e1, if_neg (by rw [ih]; exact hk), ih]
theorem first_lt {l : List Sec} {n : Nat} (hl : Low l n) (hn : 0 < n) : ∀ k, (scanTo l k).first < n
  | 0 => hn
  | k + 1 => by
    have ih := first_lt hl hn k
    cases h : l[k]? with
    | none => simp only [scanTo, h]; exact ih
    | some s =>
      rw [scanTo_succ h]
      rcases step_three (k := k) (z := scanTo l k) (s := s) with ⟨e1, _, _⟩ | ⟨_, _, _, e1, _⟩
      · omega
      · rw [e1]
        split
        · exact (hl s (List.mem_of_getElem? h)).1
        · exact ih
theorem prev_lt {l : List Sec} {n : Nat} (hl : Low l n) (hn : 0 < n) : ∀ k, (scanTo l k).prev.n < n
  | 0 => hn
  | k + 1 => by
    have ih := prev_lt hl hn k
    cases h : l[k]? with
    | none => simp only [scanTo, h]; exact ih
    | some s =>
      rw [scanTo_succ h]
      unfold scanStep
      by_cases hb : badZ k (scanTo l k) s = true
      · rw [if_pos hb]; exact ih
      · rw [if_neg hb]
        have hok : s.ok := by
          unfold badZ at hb
          simp at hb
          exact hb.1.1.2
        have h2 : s.pc.n < n := by rw [pc_n_ok hok]; exact (hl s (List.mem_of_getElem? h)).1
        simp only
        split <;> exact h2
/-- Scans of the same beginning. -/
theorem scan_ext {l l' : List Sec} : ∀ k, (∀ i, i < k → l'[i]? = l[i]?) → scanTo l' k = scanTo l k
  | 0, _ => rfl
  | k + 1, h => by
    have ih := scan_ext k fun i hi => h i (by omega)
    have hk := h k (by omega)
    cases e : l[k]? with
    | none => rw [e] at hk; simp only [scanTo, e, hk]; exact ih
    | some s => rw [e] at hk; rw [scanTo_succ e, scanTo_succ hk, ih]
theorem step_bad {k : Nat} {z : Sst} {s : Sec} (h : badZ k z s = true) : scanStep k z s = { z with done := true } := by unfold scanStep; rw [if_pos h]
section
variable {l l' : List Sec} {u n ct : Nat} {bs : List UInt8}
/-- What the scan of a half, of which some sectors were written by a batch, comes to at each place. -/
inductive MixSt (l l' : List Sec) (u n ct : Nat) (bs : List UInt8) (k : Nat) : Prop
  | off (j : Nat) (h1 : u ≤ j) (h2 : j ≤ k) (hd : (scanTo l' k).done = true) (e1 : (scanTo l' k).first = (scanTo l j).first) (e2 : (scanTo l' k).used = (scanTo l j).used) (e3 : (scanTo l' k).b = (scanTo l j).b) (hx : ¬ AllNew l' u n ct bs)
  | same (e : scanTo l' k = scanTo l k) (hx : k = u ∨ ¬ AllNew l' u n ct bs)
  | under (h1 : u < k) (h2 : k < u + ct) (e : scanTo l' k = ⟨false, ⟨n, k - u - 1, ct, partB bs (k - u - 1)⟩, bs.take ((k - u) * 51), (scanTo l u).first, (scanTo l u).used, (scanTo l u).b⟩)
  | whole (h1 : u + ct ≤ k) (h : (scanTo l' k).done = true ∨ k = u + ct ∧ (scanTo l' k).prev.n = n) (e1 : (scanTo l' k).first = if (scanTo l u).first = 0 then n else (scanTo l u).first) (e2 : (scanTo l' k).used = u + ct) (e3 : (scanTo l' k).b = (scanTo l u).b ++ bs) (hx : AllNew l' u n ct bs)
theorem not_new {s' : Sec} {j : Nat} (hm : Mix l l' u n ct bs) (hn : n < 4294967296) (hj : j < ct) (h : l'[u + j]? = some s') (hs : s'.hn < n ∨ ¬ s'.ok) (hn0 : n ≠ 0) : ¬ AllNew l' u n ct bs := fun ha => by
  have := ha j hj
  rw [h] at this
  cases this
  rcases hs with h1 | h1
  · rw [newS_hn (partB_le _ _) hn] at h1; omega
  · exact h1 (newS_ok (partB_le _ _) hn hn0)
theorem mix_scan (hm : Mix l l' u n ct bs) (hlow : Low l n) (hn : n < 4294967296) (hct : ct = secsN bs.length) (hc : ct < 65536) (hu : u = 0 ∨ ((scanTo l u).done = false ∧ (scanTo l u).prev.pl + 1 = (scanTo l u).prev.ct)) (hn0 : n ≠ 0) :
    ∀ k, u ≤ k → k ≤ l.length → MixSt l l' u n ct bs k ∧ ∀ j, u < k → k ≤ u + ct → (scanTo l' k).done = false → (scanTo l' k).prev.n = n → j < k - u → l'[u + j]? = some (newS n j ct (partB bs j)) := by
  have hcp : 0 < ct := by rw [hct]; exact secsN_pos _
  intro k hk
  obtain ⟨m, rfl⟩ : ∃ m, k = u + m := ⟨k - u, by omega⟩
  clear hk
  induction m with
  | zero =>
    intro _
    refine ⟨.same ?_ (.inl rfl), fun j h => absurd h (by omega)⟩
    exact scan_ext _ fun i hi => by
      have hi' : i < u := by omega
      cases e : l'[i]? with
      | none =>
        have := List.getElem?_eq_none_iff.1 e
        rw [hm.len] at this
        rw [List.getElem?_eq_none this]
      | some s' =>
        rcases hm.each i s' e with h | ⟨h, _⟩
        · rw [h]
        · omega
  | succ m ih =>
    intro hk
    obtain ⟨ih, ihp⟩ := ih (by omega)
    have hlt : u + m < l'.length := by rw [hm.len]; omega
    obtain ⟨s', hs'⟩ : ∃ s', l'[u + m]? = some s' := ⟨_, List.getElem?_eq_getElem hlt⟩
    have hstep : scanTo l' (u + (m + 1)) = scanStep (u + m) (scanTo l' (u + m)) s' := scanTo_succ hs'
    have hcs := hm.each _ _ hs'
    have hold : ∀ {s}, l[u + m]? = some s → s.hn < n := fun h => (hlow _ (List.mem_of_getElem? h)).1
    cases ih with
    | off j h1 h2 hd e1 e2 e3 hx =>
      have hb : badZ (u + m) (scanTo l' (u + m)) s' = true := by unfold badZ; rw [hd]; rfl
      rw [step_bad hb] at hstep
      refine ⟨.off j h1 (by omega) (by rw [hstep]) (by rw [hstep]; exact e1) (by rw [hstep]; exact e2) (by rw [hstep]; exact e3) hx, fun j _ _ h => ?_⟩
      rw [hstep] at h; cases h
    | same e hx =>
      have hpl := prev_lt hlow (by omega : 0 < n) (u + m)
      have bad_off : badZ (u + m) (scanTo l' (u + m)) s' = true → ¬ AllNew l' u n ct bs → (MixSt l l' u n ct bs (u + (m + 1)) ∧ ∀ j, u < u + (m + 1) → u + (m + 1) ≤ u + ct → (scanTo l' (u + (m + 1))).done = false → (scanTo l' (u + (m + 1))).prev.n = n → j < u + (m + 1) - u → l'[u + j]? = some (newS n j ct (partB bs j))) := fun hb hna => by
        rw [step_bad hb] at hstep
        refine ⟨.off (u + m) (by omega) (by omega) (by rw [hstep]) (by rw [hstep, e]) (by rw [hstep, e]) (by rw [hstep, e]) hna, fun j _ _ h => ?_⟩
        rw [hstep] at h; cases h
      rcases hcs with h | ⟨h1, h2, h⟩
      · -- as it was
        have hna : ¬ AllNew l' u n ct bs := by
          by_cases hmc : m < ct
          · exact not_new hm hn hmc hs' (.inl (hold h)) hn0
          · rcases hx with hx | hx
            · omega
            · exact hx
        have e' : scanTo l' (u + (m + 1)) = scanTo l (u + (m + 1)) := by rw [hstep, e]; exact (scanTo_succ h).symm
        refine ⟨.same e' (.inr hna), fun j _ _ _ hp => ?_⟩
        rw [e'] at hp
        have := prev_lt hlow (by omega : 0 < n) (u + (m + 1))
        omega
      · have h0 : u + m - u = m := by omega
        rw [h0] at h
        rcases h with rfl | ⟨hnok, _, _⟩
        · have hpc := newS_pc (i := m) (ct := ct) (partB_le bs m) hn hn0 (by omega) hc
          have hok := newS_ok (i := m) (ct := ct) (partB_le bs m) hn hn0
          by_cases hm0 : m = 0
          · subst hm0
            -- the batch begins
            have hbeg : begZ u (scanTo l u).prev (newS n 0 ct (partB bs 0)).pc = true := by
              rw [hpc]
              unfold begZ
              rw [Nat.add_zero] at hpl
              rcases hu with h3 | ⟨h3, h4⟩
              · rw [if_pos h3]; simp
              · split
                · simp
                · simp [h4]; exact hpl
            have hdn : (scanTo l u).done = false := by
              rcases hu with h3 | ⟨h3, h4⟩
              · rw [h3]; rfl
              · exact h3
            simp only [Nat.add_zero] at hstep e
            have hnb : badZ u (scanTo l' u) (newS n 0 ct (partB bs 0)) = false := by
              rw [e]
              unfold badZ
              rw [hbeg, hdn, hpc]
              simp [hok]
              omega
            have hstep2 : scanTo l' (u + (0 + 1)) = if ct = 1 then ⟨false, ⟨n, 0, ct, partB bs 0⟩, partB bs 0, if (scanTo l u).first = 0 then n else (scanTo l u).first, u + 1, (scanTo l u).b ++ partB bs 0⟩ else ⟨false, ⟨n, 0, ct, partB bs 0⟩, partB bs 0, (scanTo l u).first, (scanTo l u).used, (scanTo l u).b⟩ := by
              rw [hstep]
              unfold scanStep
              rw [hnb, e, hbeg, hpc]
              simp only [Bool.false_eq_true, if_false, if_true, List.nil_append, Nat.zero_add]
              by_cases hc1 : ct = 1
              · rw [if_pos hc1.symm, if_pos hc1]
              · rw [if_neg (fun h => hc1 h.symm), if_neg hc1]
            have hp0 : partB bs 0 = bs.take 51 := by unfold partB; simp
            refine ⟨?_, fun j _ _ _ _ hj => ?_⟩
            · by_cases hc1 : ct = 1
              · rw [if_pos hc1] at hstep2
                have hall : AllNew l' u n ct bs := fun j hj => by
                  have : j = 0 := by omega
                  subst this; exact hs'
                have hb51 : partB bs 0 = bs := by
                  rw [hp0]; apply List.take_of_length_le
                  have := secsN_le bs
                  omega
                exact .whole (by omega) (.inr ⟨by omega, by rw [hstep2]⟩) (by rw [hstep2]) (by rw [hstep2, hc1]) (by rw [hstep2]; simp only [hb51]) hall
              · rw [if_neg hc1] at hstep2
                exact .under (by omega) (by omega) (by rw [hstep2, show u + (0 + 1) - u - 1 = 0 by omega, show (u + (0 + 1) - u) * 51 = 51 by omega, hp0])
            · have : j = 0 := by omega
              subst this; exact hs'
          · -- a new one, but not the first
            have hbeg : begZ (u + m) (scanTo l' (u + m)).prev (newS n m ct (partB bs m)).pc = false := by
              rw [hpc]
              unfold begZ
              rw [if_neg (by omega)]
              simp [hm0]
            have hgo : goZ (scanTo l' (u + m)).prev (newS n m ct (partB bs m)).pc = false := by
              rw [hpc, e]
              unfold goZ
              simp
              omega
            refine bad_off (by unfold badZ; rw [hbeg, hgo]; simp) ?_
            rcases hx with hx | hx
            · omega
            · exact hx
        · have hna : ¬ AllNew l' u n ct bs := not_new hm hn (by omega : m < ct) hs' (.inr hnok) hn0
          exact bad_off (by unfold badZ; simp [hnok]) hna
    | under h1 h2 e =>
      have ihp' := fun j hj => ihp j h1 (by omega) (by rw [e]) (by rw [e]) hj
      have h0 : u + m - u = m := by omega
      rw [h0] at e ihp'
      obtain ⟨q, rfl⟩ : ∃ q, m = q + 1 := ⟨m - 1, by omega⟩
      rw [show q + 1 - 1 = q by omega] at e
      have bad_off : badZ (u + (q + 1)) (scanTo l' (u + (q + 1))) s' = true → ¬ AllNew l' u n ct bs → (MixSt l l' u n ct bs (u + (q + 1 + 1)) ∧ ∀ j, u < u + (q + 1 + 1) → u + (q + 1 + 1) ≤ u + ct → (scanTo l' (u + (q + 1 + 1))).done = false → (scanTo l' (u + (q + 1 + 1))).prev.n = n → j < u + (q + 1 + 1) - u → l'[u + j]? = some (newS n j ct (partB bs j))) := fun hb hna => by
        rw [step_bad hb] at hstep
        refine ⟨.off u (by omega) (by omega) (by rw [hstep]) (by rw [hstep, e]) (by rw [hstep, e]) (by rw [hstep, e]) hna, fun j _ _ h => ?_⟩
        rw [hstep] at h; cases h
      rcases hcs with h | ⟨h3, h4, h⟩
      · have hh := hold h
        have hna : ¬ AllNew l' u n ct bs := not_new hm hn (by omega : q + 1 < ct) hs' (.inl hh) hn0
        refine bad_off ?_ hna
        by_cases hok : s'.ok
        · have hpn := pc_n_ok hok
          unfold badZ begZ goZ
          rw [e, if_neg (by omega)]
          simp only [hpn]
          have a1 : ¬ (n < s'.hn) := by omega
          have a2 : ¬ (s'.hn = n) := by omega
          simp [a1, a2]
        · unfold badZ; simp [hok]
      · rw [h0] at h
        rcases h with rfl | ⟨hnok, _, _⟩
        · have hpc := newS_pc (i := q + 1) (ct := ct) (partB_le bs (q + 1)) hn hn0 (by omega) hc
          have hok := newS_ok (i := q + 1) (ct := ct) (partB_le bs (q + 1)) hn hn0
          have hbeg : begZ (u + (q + 1)) (scanTo l' (u + (q + 1))).prev (newS n (q + 1) ct (partB bs (q + 1))).pc = false := by
            rw [hpc]
            unfold begZ
            rw [if_neg (by omega)]
            simp
          have hgo : goZ (scanTo l' (u + (q + 1))).prev (newS n (q + 1) ct (partB bs (q + 1))).pc = true := by
            rw [hpc, e]
            unfold goZ
            simp
          have hnb : badZ (u + (q + 1)) (scanTo l' (u + (q + 1))) (newS n (q + 1) ct (partB bs (q + 1))) = false := by
            unfold badZ
            rw [hbeg, hgo, hpc, e]
            simp [hok]
            omega
          have hstep2 : scanTo l' (u + (q + 1 + 1)) = if q + 2 = ct then ⟨false, ⟨n, q + 1, ct, partB bs (q + 1)⟩, bs.take ((q + 2) * 51), if (scanTo l u).first = 0 then n else (scanTo l u).first, u + (q + 2), (scanTo l u).b ++ bs.take ((q + 2) * 51)⟩ else ⟨false, ⟨n, q + 1, ct, partB bs (q + 1)⟩, bs.take ((q + 2) * 51), (scanTo l u).first, (scanTo l u).used, (scanTo l u).b⟩ := by
            rw [hstep]
            unfold scanStep
            rw [hnb, hbeg, hpc, e]
            simp only [Bool.false_eq_true, if_false, parts_take]
            by_cases hc1 : q + 2 = ct
            · rw [if_pos hc1]; exact (if_pos hc1).symm
            · rw [if_neg hc1]; exact (if_neg hc1).symm
          have hnews : ∀ j, j < q + 1 + 1 → l'[u + j]? = some (newS n j ct (partB bs j)) := fun j hj => by
            by_cases hjq : j = q + 1
            · subst hjq; exact hs'
            · exact ihp' j (by omega)
          refine ⟨?_, fun j _ _ _ _ hj => hnews j (by omega)⟩
          by_cases hc1 : q + 2 = ct
          · rw [if_pos hc1] at hstep2
            have hb51 : bs.take ((q + 2) * 51) = bs := List.take_of_length_le (by have := secsN_le bs; rw [hc1]; omega)
            exact .whole (by omega) (.inr ⟨by omega, by rw [hstep2]⟩) (by rw [hstep2]) (by rw [hstep2]; simp only; omega) (by rw [hstep2]; simp only [hb51]) (fun j hj => hnews j (by omega))
          · rw [if_neg hc1] at hstep2
            exact .under (by omega) (by omega) (by rw [hstep2, show u + (q + 1 + 1) - u - 1 = q + 1 by omega, show (u + (q + 1 + 1) - u) * 51 = (q + 2) * 51 by omega])
        · have hna : ¬ AllNew l' u n ct bs := not_new hm hn (by omega : q + 1 < ct) hs' (.inr hnok) hn0
          exact bad_off (by unfold badZ; simp [hnok]) hna
    | whole h1 h e1 e2 e3 hx =>
      have hb : badZ (u + m) (scanTo l' (u + m)) s' = true := by
        rcases h with h | ⟨h, hp⟩
        · unfold badZ; rw [h]; rfl
        · rcases hcs with hc' | ⟨_, h4, _⟩
          · have hh := hold hc'
            by_cases hok : s'.ok
            · have hpn := pc_n_ok hok
              unfold badZ begZ goZ
              rw [hp, if_neg (by omega)]
              simp only [hpn]
              have a1 : ¬ (n < s'.hn) := by omega
              have a2 : ¬ (s'.hn = n) := by omega
              simp [a1, a2]
            · unfold badZ; simp [hok]
          · omega
      rw [step_bad hb] at hstep
      refine ⟨.whole (by omega) (.inl (by rw [hstep])) (by rw [hstep]; exact e1) (by rw [hstep]; exact e2) (by rw [hstep]; exact e3) hx, fun j _ _ h => ?_⟩
      rw [hstep] at h; cases h
/-- The scan of the whole half: as it was at some place behind u, or with the batch. -/
theorem mix_all (hm : Mix l l' u n ct bs) (hlow : Low l n) (hn : n < 4294967296) (hct : ct = secsN bs.length) (hc : ct < 65536) (hu : u = 0 ∨ ((scanTo l u).done = false ∧ (scanTo l u).prev.pl + 1 = (scanTo l u).prev.ct)) (hn0 : n ≠ 0) {m : Nat} (hlen : l.length = m) (hfit : u + ct ≤ m) :
    (¬ AllNew l' u n ct bs ∧ ∃ j, u ≤ j ∧ j ≤ m ∧ (scanTo l' m).first = (scanTo l j).first ∧ (scanTo l' m).used = (scanTo l j).used ∧ (scanTo l' m).b = (scanTo l j).b) ∨
    (AllNew l' u n ct bs ∧ (scanTo l' m).first = (if (scanTo l u).first = 0 then n else (scanTo l u).first) ∧ (scanTo l' m).used = u + ct ∧ (scanTo l' m).b = (scanTo l u).b ++ bs) := by
  have hcp : 0 < ct := by rw [hct]; exact secsN_pos _
  obtain ⟨h, _⟩ := mix_scan hm hlow hn hct hc hu hn0 m (by omega) (by omega)
  cases h with
  | off j h1 h2 hd e1 e2 e3 hx => exact .inl ⟨hx, j, h1, h2, e1, e2, e3⟩
  | same e hx =>
    rcases hx with hx | hx
    · omega
    · exact .inl ⟨hx, m, by omega, Nat.le_refl _, by rw [e], by rw [e], by rw [e]⟩
  | under h1 h2 e => omega
  | whole h1 h e1 e2 e3 hx => exact .inr ⟨hx, e1, e2, e3⟩
end
end Go.Proofs.Ytnmbmccigpljnaa.GL

namespace Go.Proofs.Ytnmbmccigpljnaa.GL
open Go Go.RowKit
set_option maxRecDepth 10000
set_option pp.deepTerms.threshold 8
set_option pp.maxSteps 3000
set_option linter.unusedSimpArgs false
set_option linter.unusedVariables false

def hA (N : List Sec) : List Sec := (N.drop 0).take (N.length / 2)
def hB (N : List Sec) : List Sec := (N.drop (N.length / 2)).take (N.length / 2)
theorem hA_at (N : List Sec) (i : Nat) : (hA N)[i]? = if i < N.length / 2 then N[i]? else none := by
  unfold hA; rw [List.getElem?_take, List.getElem?_drop, Nat.zero_add]
theorem hB_at (N : List Sec) (i : Nat) : (hB N)[i]? = if i < N.length / 2 then N[N.length / 2 + i]? else none := by
  unfold hB; rw [List.getElem?_take, List.getElem?_drop]
theorem hA_len (N : List Sec) : (hA N).length = N.length / 2 := by unfold hA; simp; omega
theorem hB_len (N : List Sec) : (hB N).length = N.length / 2 := by unfold hB; simp; omega
theorem hA_low {N : List Sec} {n : Nat} (h : Low N n) : Low (hA N) n := fun s hs => h s (List.mem_of_mem_drop (List.mem_of_mem_take hs))
theorem hB_low {N : List Sec} {n : Nat} (h : Low N n) : Low (hB N) n := fun s hs => h s (List.mem_of_mem_drop (List.mem_of_mem_take hs))
theorem lastTo_ge (l : List Sec) (x : Nat) : ∀ k, x ≤ lastTo l x k
  | 0 => Nat.le_refl _
  | k + 1 => by
    have ih := lastTo_ge l x k
    unfold lastTo
    split
    · omega
    · exact ih
theorem lastTo_at (l : List Sec) (x : Nat) : ∀ k i s, i < k → l[i]? = some s → s.hn ≤ lastTo l x k ∧ s.tn ≤ lastTo l x k
  | 0, i, s, h, _ => by omega
  | k + 1, i, s, h, hs => by
    by_cases hi : i = k
    · subst hi
      rw [lastTo_succ hs]; omega
    · have ih := lastTo_at l x k i s (by omega) hs
      unfold lastTo
      split
      · omega
      · exact ih
theorem lastTo_le (l : List Sec) (x m : Nat) (hx : x ≤ m) (hl : Low l (m + 1)) : ∀ k, lastTo l x k ≤ m
  | 0 => hx
  | k + 1 => by
    have ih := lastTo_le l x m hx hl k
    unfold lastTo
    split
    · rename_i s h
      have := hl s (List.mem_of_getElem? h)
      omega
    · exact ih
theorem last2_le {N : List Sec} {m : Nat} (h : Low N (m + 1)) : lastZ2 N ≤ m :=
  lastTo_le _ _ _ (lastTo_le _ _ _ (Nat.zero_le _) (hA_low h) _) (hB_low h) _
theorem last2_low (N : List Sec) : Low (hA N) (lastZ2 N + 1) ∧ Low (hB N) (lastZ2 N + 1) := by
  constructor
  · intro s hs
    obtain ⟨i, hi⟩ := List.getElem?_of_mem hs
    have hlt : i < N.length / 2 := by
      have := (List.getElem?_eq_some_iff.1 hi).1
      rw [hA_len] at this; exact this
    have h1 := lastTo_at (hA N) 0 (N.length / 2) i s hlt hi
    have h2 := lastTo_ge (hB N) (lastTo (hA N) 0 (N.length / 2)) (N.length / 2)
    have e : lastZ2 N = lastTo (hB N) (lastTo (hA N) 0 (N.length / 2)) (N.length / 2) := rfl
    omega
  · intro s hs
    obtain ⟨i, hi⟩ := List.getElem?_of_mem hs
    have hlt : i < N.length / 2 := by
      have := (List.getElem?_eq_some_iff.1 hi).1
      rw [hB_len] at this; exact this
    have h1 := lastTo_at (hB N) (lastTo (hA N) 0 (N.length / 2)) (N.length / 2) i s hlt hi
    have e : lastZ2 N = lastTo (hB N) (lastTo (hA N) 0 (N.length / 2)) (N.length / 2) := rfl
    omega
theorem Low.mono {l : List Sec} {m n : Nat} (h : Low l m) (hm : m ≤ n) : Low l n := fun s hs => ⟨Nat.lt_of_lt_of_le (h s hs).1 hm, Nat.lt_of_lt_of_le (h s hs).2 hm⟩
section
variable {N N' : List Sec} {at0 n ct : Nat} {bs : List UInt8}
theorem mix_low {m : Nat} (hm : Mix N N' at0 n ct bs) (hl : Low N m) (hnm : n < m) (hn : n < 4294967296) : Low N' m := fun s hs => by
  obtain ⟨i, hi⟩ := List.getElem?_of_mem hs
  rcases hm.each i s hi with h | ⟨_, _, rfl | ⟨_, h1, h2⟩⟩
  · exact hl s (List.mem_of_getElem? h)
  · rw [newS_hn (partB_le _ _) hn, newS_tn (partB_le _ _) hn]; omega
  · omega
theorem mix_left (hm : Mix N N' at0 n ct bs) (hf : at0 + ct ≤ N.length / 2) : Mix (hA N) (hA N') at0 n ct bs ∧ hB N' = hB N := by
  refine ⟨⟨by rw [hA_len, hA_len, hm.len], fun i s' h => ?_⟩, ?_⟩
  · rw [hA_at] at h
    rw [hA_at]
    rw [hm.len] at h
    split at h
    · rename_i hi
      rw [if_pos hi]; exact hm.each i s' h
    · cases h
  · apply List.ext_getElem?
    intro i
    rw [hB_at, hB_at, hm.len]
    split
    · rename_i hi
      cases e : N'[N.length / 2 + i]? with
      | none =>
        have := List.getElem?_eq_none_iff.1 e
        rw [hm.len] at this
        rw [List.getElem?_eq_none this]
      | some s =>
        rcases hm.each _ _ e with h | ⟨_, h, _⟩
        · rw [h]
        · omega
    · rfl
theorem mix_right (hm : Mix N N' (N.length / 2 + at0) n ct bs) : Mix (hB N) (hB N') at0 n ct bs ∧ hA N' = hA N := by
  refine ⟨⟨by rw [hB_len, hB_len, hm.len], fun i s' h => ?_⟩, ?_⟩
  · rw [hB_at] at h
    rw [hB_at]
    rw [hm.len] at h
    split at h
    · rename_i hi
      rw [if_pos hi]
      rcases hm.each _ s' h with h | ⟨h1, h2, h3⟩
      · exact .inl h
      · refine .inr ⟨by omega, by omega, ?_⟩
        rw [show N.length / 2 + i - (N.length / 2 + at0) = i - at0 by omega] at h3
        exact h3
    · cases h
  · apply List.ext_getElem?
    intro i
    rw [hA_at, hA_at, hm.len]
    split
    · rename_i hi
      cases e : N'[i]? with
      | none =>
        have := List.getElem?_eq_none_iff.1 e
        rw [hm.len] at this
        rw [List.getElem?_eq_none this]
      | some s =>
        rcases hm.each _ _ e with h | ⟨h, _, _⟩
        · rw [h]
        · omega
    · rfl
theorem new_left (hlen : N'.length = N.length) (hf : at0 + ct ≤ N.length / 2) : AllNew (hA N') at0 n ct bs ↔ AllNew N' at0 n ct bs := by
  constructor
  · intro h j hj
    have := h j hj
    rw [hA_at, hlen, if_pos (by omega)] at this; exact this
  · intro h j hj
    rw [hA_at, hlen, if_pos (by omega)]; exact h j hj
theorem new_right (hlen : N'.length = N.length) (hf : at0 + ct ≤ N.length / 2) : AllNew (hB N') at0 n ct bs ↔ AllNew N' (N.length / 2 + at0) n ct bs := by
  constructor
  · intro h j hj
    have := h j hj
    rw [hB_at, hlen, if_pos (by omega)] at this; rw [Nat.add_assoc]; exact this
  · intro h j hj
    have := h j hj
    rw [hB_at, hlen, if_pos (by omega), ← Nat.add_assoc]; exact this
/-- What counts of a disk: where the journal begins, how many sectors it has, its bytes. -/
def pick (N : List Sec) : Nat × Nat × List UInt8 := (baseZ N, (chosen N).used, (chosen N).b)
theorem halfA_eq (N : List Sec) : halfA N = scanTo (hA N) (N.length / 2) := rfl
theorem halfB_eq (N : List Sec) : halfB N = scanTo (hB N) (N.length / 2) := rfl
theorem pick_A {N : List Sec} (h : ¬ (halfA N).first < (halfB N).first) : pick N = (0, (halfA N).used, (halfA N).b) := by
  unfold pick baseZ chosen; rw [if_neg h, if_neg h]
theorem pick_B {N : List Sec} (h : (halfA N).first < (halfB N).first) : pick N = (N.length / 2, (halfB N).used, (halfB N).b) := by
  unfold pick baseZ chosen; rw [if_pos h, if_pos h]
theorem first_le (l : List Sec) {j m : Nat} (h : j ≤ m) : (scanTo l j).first = 0 ∨ (scanTo l j).first = (scanTo l m).first := by
  by_cases hz : (scanTo l j).first = 0
  · exact .inl hz
  · have := first_stays l j hz (m - j)
    rw [show j + (m - j) = m by omega] at this
    exact .inr this.symm
theorem pick_add (hlA : Low (hA N) n) (hlB : Low (hB N) n) (hn : n < 4294967296) (hn0 : n ≠ 0) (hct : ct = secsN bs.length) (hc : ct < 65536) (hm : Mix N N' (baseZ N + (chosen N).used) n ct bs) (hf : (chosen N).used + ct ≤ N.length / 2) :
    (¬ AllNew N' (baseZ N + (chosen N).used) n ct bs ∧ pick N' = pick N) ∨ (AllNew N' (baseZ N + (chosen N).used) n ct bs ∧ pick N' = (baseZ N, (chosen N).used + ct, (chosen N).b ++ bs)) := by
  by_cases hlt : (halfA N).first < (halfB N).first
  · have eb : baseZ N = N.length / 2 := by unfold baseZ; rw [if_pos hlt]
    have ec : chosen N = halfB N := by unfold chosen; rw [if_pos hlt]
    have ep := pick_B hlt
    rw [ec] at hf ⊢
    rw [eb, ec] at hm
    rw [eb]
    obtain ⟨m2, ea⟩ := mix_right hm
    have hAe : halfA N' = halfA N := by rw [halfA_eq, halfA_eq, ea, hm.len]
    have hu := clean_at (hB N) (N.length / 2)
    rcases mix_all m2 hlB hn hct hc hu hn0 (hB_len N) hf with ⟨hx, j, h1, h2, e1, e2, e3⟩ | ⟨hx, e1, e2, e3⟩
    · left
      refine ⟨fun h => hx ((new_right hm.len hf).2 h), ?_⟩
      obtain ⟨t1, t2, t3⟩ := three_same (hB N) (N.length / 2) j h1 h2
      have f1 : (halfB N').first = (halfB N).first := by rw [halfB_eq, halfB_eq, hm.len]; exact e1.trans t1
      have f2 : (halfB N').used = (halfB N).used := by rw [halfB_eq, halfB_eq, hm.len]; exact e2.trans t2
      have f3 : (halfB N').b = (halfB N).b := by rw [halfB_eq, halfB_eq, hm.len]; exact e3.trans t3
      rw [pick_B (by rw [hAe, f1]; exact hlt), ep, f2, f3, hm.len]
    · right
      refine ⟨(new_right hm.len hf).1 hx, ?_⟩
      obtain ⟨t1, t2, t3⟩ := three_same (hB N) (N.length / 2) (halfB N).used (Nat.le_refl _) (used_le _ _)
      have f1 : (halfB N').first = (halfB N).first := by
        rw [halfB_eq, hm.len]
        refine e1.trans ?_
        rw [if_neg (by rw [t1]; show (halfB N).first ≠ 0; omega), t1]; rfl
      have f3 : (halfB N').b = (halfB N).b ++ bs := by rw [halfB_eq, hm.len]; refine e3.trans ?_; rw [t3]; rfl
      have f2 : (halfB N').used = (halfB N).used + ct := by rw [halfB_eq, hm.len]; exact e2
      rw [pick_B (by rw [hAe, f1]; exact hlt), f2, f3, hm.len]
  · have eb : baseZ N = 0 := by unfold baseZ; rw [if_neg hlt]
    have ec : chosen N = halfA N := by unfold chosen; rw [if_neg hlt]
    have ep := pick_A hlt
    rw [ec] at hf ⊢
    rw [eb, ec, Nat.zero_add] at hm
    rw [eb, Nat.zero_add]
    obtain ⟨m2, ea⟩ := mix_left hm hf
    have hBe : halfB N' = halfB N := by rw [halfB_eq, halfB_eq, ea, hm.len]
    have hu := clean_at (hA N) (N.length / 2)
    rcases mix_all m2 hlA hn hct hc hu hn0 (hA_len N) hf with ⟨hx, j, h1, h2, e1, e2, e3⟩ | ⟨hx, e1, e2, e3⟩
    · left
      refine ⟨fun h => hx ((new_left hm.len hf).2 h), ?_⟩
      obtain ⟨t1, t2, t3⟩ := three_same (hA N) (N.length / 2) j h1 h2
      have f1 : (halfA N').first = (halfA N).first := by rw [halfA_eq, halfA_eq, hm.len]; exact e1.trans t1
      have f2 : (halfA N').used = (halfA N).used := by rw [halfA_eq, halfA_eq, hm.len]; exact e2.trans t2
      have f3 : (halfA N').b = (halfA N).b := by rw [halfA_eq, halfA_eq, hm.len]; exact e3.trans t3
      rw [pick_A (by rw [hBe, f1]; exact hlt), ep, f2, f3]
    · right
      refine ⟨(new_left hm.len hf).1 hx, ?_⟩
      obtain ⟨t1, t2, t3⟩ := three_same (hA N) (N.length / 2) (halfA N).used (Nat.le_refl _) (used_le _ _)
      have f1 : (halfA N').first = if (halfA N).first = 0 then n else (halfA N).first := by
        rw [halfA_eq, hm.len]
        refine e1.trans ?_
        rw [t1]; rfl
      have f3 : (halfA N').b = (halfA N).b ++ bs := by rw [halfA_eq, hm.len]; refine e3.trans ?_; rw [t3]; rfl
      have f2 : (halfA N').used = (halfA N).used + ct := by rw [halfA_eq, hm.len]; exact e2
      rw [pick_A (by rw [hBe, f1]; split <;> omega), f2, f3]
theorem pick_repl (hlA : Low (hA N) n) (hlB : Low (hB N) n) (hn : n < 4294967296) (hn0 : n ≠ 0) (hct : ct = secsN bs.length) (hc : ct < 65536) (hm : Mix N N' (N.length / 2 - baseZ N) n ct bs) (hf : ct ≤ N.length / 2) :
    (¬ AllNew N' (N.length / 2 - baseZ N) n ct bs ∧ pick N' = pick N) ∨ (AllNew N' (N.length / 2 - baseZ N) n ct bs ∧ pick N' = (N.length / 2 - baseZ N, ct, bs)) := by
  have hf0 : 0 + ct ≤ N.length / 2 := by omega
  by_cases hlt : (halfA N).first < (halfB N).first
  · have eb : baseZ N = N.length / 2 := by unfold baseZ; rw [if_pos hlt]
    have ep := pick_B hlt
    rw [eb, Nat.sub_self] at hm ⊢
    obtain ⟨m2, ea⟩ := mix_left hm hf0
    have hBe : halfB N' = halfB N := by rw [halfB_eq, halfB_eq, ea, hm.len]
    rcases mix_all m2 hlA hn hct hc (.inl rfl) hn0 (hA_len N) hf0 with ⟨hx, j, h1, h2, e1, e2, e3⟩ | ⟨hx, e1, e2, e3⟩
    · left
      refine ⟨fun h => hx ((new_left hm.len hf0).2 h), ?_⟩
      have f1 : (halfA N').first = 0 ∨ (halfA N').first = (halfA N).first := by
        rw [halfA_eq, halfA_eq, hm.len, e1]; exact first_le _ h2
      rw [pick_B (by rw [hBe]; omega), ep, hBe, hm.len]
    · right
      refine ⟨(new_left hm.len hf0).1 hx, ?_⟩
      have f1 : (halfA N').first = n := by rw [halfA_eq, hm.len]; exact e1
      have f2 : (halfA N').used = ct := by rw [halfA_eq, hm.len]; rw [e2, Nat.zero_add]
      have f3 : (halfA N').b = bs := by rw [halfA_eq, hm.len]; exact e3
      have f4 : (halfB N).first < n := first_lt hlB (by omega) _
      rw [pick_A (by rw [hBe, f1]; omega), f2, f3]
  · have eb : baseZ N = 0 := by unfold baseZ; rw [if_neg hlt]
    have ep := pick_A hlt
    rw [eb, Nat.sub_zero] at hm ⊢
    have hm' : Mix N N' (N.length / 2 + 0) n ct bs := hm
    obtain ⟨m2, ea⟩ := mix_right hm'
    have hAe : halfA N' = halfA N := by rw [halfA_eq, halfA_eq, ea, hm.len]
    have nr := new_right (n := n) (bs := bs) hm.len hf0
    rw [Nat.add_zero] at nr
    rcases mix_all m2 hlB hn hct hc (.inl rfl) hn0 (hB_len N) hf0 with ⟨hx, j, h1, h2, e1, e2, e3⟩ | ⟨hx, e1, e2, e3⟩
    · left
      refine ⟨fun h => hx (nr.2 h), ?_⟩
      have f1 : (halfB N').first = 0 ∨ (halfB N').first = (halfB N).first := by
        rw [halfB_eq, halfB_eq, hm.len, e1]; exact first_le _ h2
      rw [pick_A (by rw [hAe]; omega), ep, hAe]
    · right
      refine ⟨nr.1 hx, ?_⟩
      have f1 : (halfB N').first = n := by rw [halfB_eq, hm.len]; exact e1
      have f2 : (halfB N').used = ct := by rw [halfB_eq, hm.len]; rw [e2, Nat.zero_add]
      have f3 : (halfB N').b = bs := by rw [halfB_eq, hm.len]; exact e3
      have f4 : (halfA N).first < n := first_lt hlA (by omega) _
      rw [pick_B (by rw [hAe, f1]; omega), f2, f3, hm.len]
end
end Go.Proofs.Ytnmbmccigpljnaa.GL

namespace Go.Proofs.Ytnmbmccigpljnaa.GL
open Go Go.RowKit
set_option maxRecDepth 10000
set_option pp.deepTerms.threshold 8
set_option pp.maxSteps 3000
set_option linter.unusedSimpArgs false
set_option linter.unusedVariables false

def putK (N : List Sec) (at0 n ct : Nat) (bs : List UInt8) : Nat → List Sec
  | 0 => N
  | k + 1 => (putK N at0 n ct bs k).set (at0 + k) (newS n k ct (partB bs k))
def wrs (at0 n ct : Nat) (bs : List UInt8) (k : Nat) : List Wr := (List.range k).map fun i => ⟨at0 + i, newS n i ct (partB bs i)⟩
theorem wrs_succ (at0 n ct : Nat) (bs : List UInt8) (k : Nat) : wrs at0 n ct bs (k + 1) = wrs at0 n ct bs k ++ [⟨at0 + k, newS n k ct (partB bs k)⟩] := by
  unfold wrs; rw [List.range_succ, List.map_append]; rfl
theorem wrs_len (at0 n ct : Nat) (bs : List UInt8) (k : Nat) : (wrs at0 n ct bs k).length = k := by simp [wrs]
theorem wrs_at (at0 n ct : Nat) (bs : List UInt8) {k i : Nat} (h : i < k) : (wrs at0 n ct bs k)[i]? = some ⟨at0 + i, newS n i ct (partB bs i)⟩ := by
  simp [wrs, h]
section
variable (N : List Sec) (at0 n ct : Nat) (bs : List UInt8)
theorem putK_len : ∀ k, (putK N at0 n ct bs k).length = N.length
  | 0 => rfl
  | k + 1 => by rw [putK, List.length_set, putK_len k]
theorem putK_at : ∀ k i, at0 + k ≤ N.length → (putK N at0 n ct bs k)[i]? = if at0 ≤ i ∧ i < at0 + k then some (newS n (i - at0) ct (partB bs (i - at0))) else N[i]?
  | 0, i, _ => by rw [if_neg (by omega)]; rfl
  | k + 1, i, h => by
    have ih := putK_at k i (by omega)
    rw [putK, List.getElem?_set, putK_len]
    by_cases hi : at0 + k = i
    · rw [if_pos hi, if_pos (by omega), if_pos (by omega)]
      rw [show i - at0 = k by omega]
    · rw [if_neg hi, ih]
      by_cases hc : at0 ≤ i ∧ i < at0 + k
      · rw [if_pos hc, if_pos (by omega)]
      · rw [if_neg hc, if_neg (by omega)]
theorem putK_mix (h : at0 + ct ≤ N.length) : Mix N (putK N at0 n ct bs ct) at0 n ct bs := by
  refine ⟨putK_len _ _ _ _ _ _, fun i s' e => ?_⟩
  rw [putK_at _ _ _ _ _ _ _ h] at e
  split at e
  · rename_i hc
    cases e
    exact .inr ⟨hc.1, hc.2, .inl rfl⟩
  · exact .inl e
theorem putK_new (h : at0 + ct ≤ N.length) : AllNew (putK N at0 n ct bs ct) at0 n ct bs := fun j hj => by
  rw [putK_at _ _ _ _ _ _ _ h, if_pos (by omega), Nat.add_sub_cancel_left]
theorem apply_wrs : ∀ k, applyW N (wrs at0 n ct bs k) = putK N at0 n ct bs k
  | 0 => rfl
  | k + 1 => by rw [wrs_succ, applyW_app, apply_wrs k]; rfl
/-- A crash after some writes of a batch. -/
theorem crash_mix (ks : List Bool) (last : Int) (t j : Nat) (hj : j ≤ ct) (hfit : at0 + ct ≤ N.length) (hn : n < 256) (hlow : ∀ i s, at0 ≤ i → i < at0 + ct → N[i]? = some s → s.hn < n ∧ s.tn < n) :
    ∀ i, i ≤ j → Mix N (crashW ks last t (wrs at0 n ct bs j) N i) at0 n ct bs ∧ ∀ q, at0 + i ≤ q → (crashW ks last t (wrs at0 n ct bs j) N i)[q]? = N[q]?
  | 0, _ => ⟨⟨rfl, fun i s' h => .inl h⟩, fun q _ => rfl⟩
  | i + 1, hi => by
    obtain ⟨ih, ih2⟩ := crash_mix ks last t j hj hfit hn hlow i (by omega)
    have hx := wrs_at at0 n ct bs (show i < j by omega)
    have e : crashW ks last t (wrs at0 n ct bs j) N (i + 1) = stepW ks last t i (crashW ks last t (wrs at0 n ct bs j) N i) ⟨at0 + i, newS n i ct (partB bs i)⟩ := by
      simp only [crashW, hx]
    rw [e]
    generalize crashW ks last t (wrs at0 n ct bs j) N i = X at *
    have hlt : at0 + i < N.length := by omega
    have hold : N[at0 + i]? = some N[at0 + i] := List.getElem?_eq_getElem hlt
    have hXo : X[at0 + i]? = some N[at0 + i] := by rw [ih2 _ (Nat.le_refl _), hold]
    have key : ∀ y : Sec, (y = N[at0 + i] ∨ y = newS n i ct (partB bs i) ∨ (¬ y.ok ∧ y.hn ≤ n ∧ y.tn ≤ n)) → Mix N (X.set (at0 + i) y) at0 n ct bs ∧ ∀ q, at0 + (i + 1) ≤ q → (X.set (at0 + i) y)[q]? = N[q]? := fun y hy => by
      refine ⟨⟨by rw [List.length_set, ih.len], fun q s' h => ?_⟩, fun q hq => ?_⟩
      · rw [List.getElem?_set] at h
        by_cases hq : at0 + i = q
        · subst hq
          rw [if_pos rfl, if_pos (by rw [ih.len]; exact hlt)] at h
          cases h
          rcases hy with h1 | h1
          · left; rw [hold, h1]
          · right
            refine ⟨by omega, by omega, ?_⟩
            rw [Nat.add_sub_cancel_left]; exact h1
        · rw [if_neg hq] at h
          exact ih.each q s' h
      · rw [List.getElem?_set, if_neg (by omega)]; exact ih2 q (by omega)
    unfold stepW
    split
    · exact key _ (.inr (.inl rfl))
    · split
      · have hg : X.getD (at0 + i) (secOf []) = N[at0 + i] := by rw [List.getD_eq_getElem?_getD, hXo]; rfl
        rw [hg]
        have hl := hlow (at0 + i) _ (by omega) (by omega) hold
        exact key _ (torn_cases (partB_le _ _) t hl.1 hl.2 hn)
      · refine ⟨ih, fun q hq => ih2 q (by omega)⟩
end
/-- Nothing is under way. -/
structure Calm (d : DZ) : Prop where
  up : d.down = false
  wait : d.wait = []
  same : d.kept = d.now
theorem Calm.reopen {d : DZ} (h : Calm d) (ks : List Bool) (t : Int) : Calm (reopenZ d ks t) ∧ (reopenZ d ks t).now = d.now ∧ (reopenZ d ks t).left = -1 := by
  have e : reopenZ d ks t = ⟨d.kept, d.kept, [], -1, false⟩ := by
    unfold reopenZ; rw [h.wait]; rfl
  rw [e]
  exact ⟨⟨rfl, rfl, rfl⟩, h.same, rfl⟩
section
variable {d : DZ} {at0 n ct : Nat} {bs : List UInt8}
theorem outZ_ok {d : DZ} {k : Nat} (h : d.down = false) (hk : k < d.kept.length) : outZ d (k : Int) = 0 := by
  unfold outZ
  rw [h, if_neg (by decide), if_neg (by omega)]
theorem writeD_ok {d : DZ} {m : Int} {x : List UInt8} (h : outZ d m = 0) : writeD d m x = (if (powZ d).down = true then powZ d else writeZ d m.toNat (secOf x)) ∧ writeE d m = powE d := by
  unfold writeD writeE
  constructor
  · rw [if_neg (by rw [h]; decide)]
  · rw [if_neg (by rw [h]; decide)]
theorem wrK_calm (hd : Calm d) (hfit : at0 + ct ≤ d.now.length) : ∀ k, k ≤ ct →
    (∃ d1, wrK d at0 n ct bs k = (d1, 0) ∧ d1.down = false ∧ d1.now = putK d.now at0 n ct bs k ∧ d1.wait = wrs at0 n ct bs k ∧ d1.kept = d.now ∧ (d.left ≤ 0 → d1.left = d.left)) ∨
    (∃ d1 j, wrK d at0 n ct bs k = (d1, 22) ∧ j ≤ ct ∧ d1.wait = wrs at0 n ct bs j ∧ d1.kept = d.now ∧ 0 < d.left)
  | 0, _ => .inl ⟨d, rfl, hd.up, rfl, hd.wait, hd.same, fun _ => rfl⟩
  | k + 1, hk => by
    rcases wrK_calm hd hfit k (by omega) with ⟨d1, e, h1, h2, h3, h4, h5⟩ | ⟨d1, j, e, h1, h2, h3, h4⟩
    · rw [wrK_succ e]
      have ho : outZ d1 ((at0 + k : Nat) : Int) = 0 := outZ_ok h1 (by rw [h4]; omega)
      obtain ⟨s1, s2, s3⟩ := powZ_same d1
      rw [(writeD_ok (x := sectorB n k ct (partB bs k)) ho).1, (writeD_ok (x := sectorB n k ct (partB bs k)) ho).2]
      by_cases hp : (powZ d1).down = true
      · right
        refine ⟨powZ d1, k, by rw [if_pos hp]; simp [powE, hp], by omega, by rw [s3, h3], by rw [s1, h4], ?_⟩
        unfold powZ at hp
        split at hp
        · rename_i h0
          rcases Int.lt_or_le 0 d.left with h6 | h6
          · exact h6
          · rw [h5 h6] at h0; omega
        · rw [h1] at hp; cases hp
      · left
        refine ⟨writeZ d1 (at0 + k) (newS n k ct (partB bs k)), by rw [if_neg hp]; simp [powE, hp]; rfl, ?_, ?_, ?_, ?_, ?_⟩
        · show (powZ d1).down = false
          simpa using hp
        · show d1.now.set _ _ = _
          rw [h2]; rfl
        · show d1.wait ++ _ = _
          rw [h3, wrs_succ]
        · show (powZ d1).kept = _
          rw [s1, h4]
        · intro h0
          have := h5 h0
          show (powZ d1).left = _
          unfold powZ
          rw [if_neg (by omega)]; exact this
    · right
      have := wrK_bad (by decide : (22 : Int) ≠ 0) e 1
      exact ⟨d1, j, this, h1, h2, h3, h4⟩
/-- A batch: all of it is kept, or the power went. -/
theorem batch_calm (hd : Calm d) (hct : ct = secsN bs.length) (hfit : at0 + ct ≤ d.now.length) :
    (∃ d1, batchZ d at0 n bs = (d1, 0) ∧ Calm d1 ∧ d1.now = putK d.now at0 n ct bs ct ∧ (d.left ≤ 0 → d1.left = d.left)) ∨
    (∃ d1 j, batchZ d at0 n bs = (d1, 22) ∧ j ≤ ct ∧ d1.wait = wrs at0 n ct bs j ∧ d1.kept = d.now ∧ 0 < d.left) := by
  unfold batchZ
  rw [← hct]
  rcases wrK_calm (n := n) (bs := bs) hd hfit ct (Nat.le_refl _) with ⟨d1, e, h1, h2, h3, h4, h5⟩ | ⟨d1, j, e, h1, h2, h3, h4⟩
  · rw [e]
    obtain ⟨s1, s2, s3⟩ := powZ_same d1
    simp only [ne_eq, not_true_eq_false, if_false]
    unfold syncD syncE
    rw [h1]
    simp only [Bool.false_eq_true, if_false]
    by_cases hp : (powZ d1).down = true
    · right
      refine ⟨powZ d1, ct, by rw [if_pos hp]; simp [powE, hp], Nat.le_refl _, by rw [s3, h3], by rw [s1, h4], ?_⟩
      unfold powZ at hp
      split at hp
      · rename_i h0
        rcases Int.lt_or_le 0 d.left with h6 | h6
        · exact h6
        · rw [h5 h6] at h0; omega
      · rw [h1] at hp; cases hp
    · left
      refine ⟨syncZ d1, by rw [if_neg hp]; simp [powE, hp], ⟨by show (powZ d1).down = false; simpa using hp, rfl, ?_⟩, ?_, ?_⟩
      · show applyW d1.kept d1.wait = (powZ d1).now
        rw [s2, h2, h3, h4, apply_wrs]
      · show (powZ d1).now = _
        rw [s2, h2]
      · intro h0
        have := h5 h0
        show (powZ d1).left = _
        unfold powZ
        rw [if_neg (by omega)]; exact this
  · rw [e]
    right
    exact ⟨d1, j, by simp, h1, h2, h3, h4⟩
theorem reopen_mix {d1 : DZ} {N : List Sec} {j : Nat} (hw : d1.wait = wrs at0 n ct bs j) (hk : d1.kept = N) (hj : j ≤ ct) (hfit : at0 + ct ≤ N.length) (hn : n < 256) (hlow : ∀ i s, at0 ≤ i → i < at0 + ct → N[i]? = some s → s.hn < n ∧ s.tn < n) (ks : List Bool) (t : Int) :
    Calm (reopenZ d1 ks t) ∧ Mix N (reopenZ d1 ks t).now at0 n ct bs ∧ (reopenZ d1 ks t).left = -1 := by
  refine ⟨⟨rfl, rfl, rfl⟩, ?_, rfl⟩
  have := (crash_mix N at0 n ct bs ks (lastZ ks d1.wait.length) (tornN t) j hj hfit hn hlow j (Nat.le_refl _)).1
  unfold reopenZ
  simp only
  rw [hk, hw, wrs_len]
  rw [hw, wrs_len] at this
  exact this
end
end Go.Proofs.Ytnmbmccigpljnaa.GL

namespace Go.Proofs.Ytnmbmccigpljnaa.GL
open Go Go.RowKit
set_option maxRecDepth 10000
set_option pp.deepTerms.threshold 8
set_option pp.maxSteps 3000
set_option linter.unusedSimpArgs false
set_option linter.unusedVariables false

theorem framesB_app (a b : List RZ) : framesB (a ++ b) = framesB a ++ framesB b := by unfold framesB; rw [List.map_append, List.flatten_append]
/-- A disk on which a journal is. -/
structure Jd (d : DZ) (rs : List RZ) (c m : Nat) : Prop where
  calm : Calm d
  len : d.now.length = m
  ge : 8 ≤ m
  le : m ≤ 2400
  low : Low d.now (c + 1)
  bytes : (chosen d.now).b = framesB rs
  good : ∀ r ∈ rs, r.good
/-- A journal and its disk. -/
structure Jn (d : DZ) (l : LZ) (rs : List RZ) (c m : Nat) : Prop extends Jd d rs c m where
  half : l.half = m / 2
  base : l.base = baseZ d.now
  used : l.used = (chosen d.now).used
  recs : l.recs = rs
  lst : l.last ≤ c
  lowA : Low (hA d.now) (l.last + 1)
  lowB : Low (hB d.now) (l.last + 1)
theorem base_or (N : List Sec) : baseZ N = 0 ∨ baseZ N = N.length / 2 := by
  unfold baseZ
  split
  · exact .inr rfl
  · exact .inl rfl
theorem chosen_used (N : List Sec) : (chosen N).used ≤ N.length / 2 := by
  unfold chosen
  split <;> exact used_le _ _
section
variable {d : DZ} {l : LZ} {rs news : List RZ} {c m : Nat}
theorem Jd.opened (h : Jd d rs c m) : Jn d ⟨d.now.length / 2, baseZ d.now, (chosen d.now).used, lastZ2 d.now, rs⟩ rs c m ∧ lastZ2 d.now ≤ c :=
  ⟨⟨h, by rw [h.len], rfl, rfl, rfl, last2_le h.low, (last2_low _).1, (last2_low _).2⟩, last2_le h.low⟩
theorem Jd.reopen (h : Jd d rs c m) (ks : List Bool) (t : Int) : Jd (reopenZ d ks t) rs c m ∧ (reopenZ d ks t).left = -1 := by
  obtain ⟨h1, h2, h3⟩ := h.calm.reopen ks t
  exact ⟨⟨h1, by rw [h2]; exact h.len, h.ge, h.le, by rw [h2]; exact h.low, by rw [h2]; exact h.bytes, h.good⟩, h3⟩
theorem Jd.left (h : Jd d rs c m) (z : Int) : Jd { d with left := z } rs c m := ⟨⟨h.calm.up, h.calm.wait, h.calm.same⟩, h.len, h.ge, h.le, h.low, h.bytes, h.good⟩
theorem Jn.left (h : Jn d l rs c m) (z : Int) : Jn { d with left := z } l rs c m := ⟨h.toJd.left z, h.half, h.base, h.used, h.recs, h.lst, h.lowA, h.lowB⟩
theorem Jn.lows (h : Jn d l rs c m) {i : Nat} {s : Sec} (hi : i < 2 * (m / 2)) (e : d.now[i]? = some s) : s.hn < l.last + 1 ∧ s.tn < l.last + 1 := by
  have hm := h.len
  by_cases h2 : i < m / 2
  · apply h.lowA
    apply List.mem_of_getElem? (i := i)
    rw [hA_at, hm, if_pos h2]; exact e
  · apply h.lowB
    apply List.mem_of_getElem? (i := i - m / 2)
    rw [hB_at, hm, if_pos (by omega), show m / 2 + (i - m / 2) = i by omega]; exact e
theorem mix_halves {N N' : List Sec} {at0 n ct k : Nat} {bs : List UInt8} (hm : Mix N N' at0 n ct bs) (hn : n < 4294967296) (hk : n < k) (hA1 : Low (hA N) k) (hB1 : Low (hB N) k) (hf : at0 + ct ≤ N.length / 2 ∨ N.length / 2 ≤ at0) : Low (hA N') k ∧ Low (hB N') k := by
  rcases hf with hf | hf
  · obtain ⟨m1, e⟩ := mix_left hm hf
    exact ⟨mix_low m1 hA1 hk hn, by rw [e]; exact hB1⟩
  · obtain ⟨q, rfl⟩ : ∃ q, at0 = N.length / 2 + q := ⟨at0 - N.length / 2, by omega⟩
    obtain ⟨m1, e⟩ := mix_right hm
    exact ⟨by rw [e]; exact hA1, mix_low m1 hB1 hk hn⟩
/-- A batch that is written whole, or of which a part is. -/
theorem Jn.batch (h : Jn d l rs c m) (hc : c < 4294967200) {at0 ct n : Nat} {bs : List UInt8} (hn : n = l.last + 1) (hct : ct = secsN bs.length) (hfit : at0 + ct ≤ m / 2 ∨ m / 2 ≤ at0) (hfit2 : at0 + ct ≤ 2 * (m / 2)) :
    (∃ d1, batchZ d at0 n bs = (d1, 0) ∧ Calm d1 ∧ d1.now.length = m ∧ Mix d.now d1.now at0 n ct bs ∧ AllNew d1.now at0 n ct bs ∧ Low d1.now (c + 2) ∧ Low (hA d1.now) (n + 1) ∧ Low (hB d1.now) (n + 1) ∧ (d.left ≤ 0 → d1.left = d.left)) ∨
    (∃ d1, batchZ d at0 n bs = (d1, 22) ∧ d1.wait.length ≤ 2400 ∧ 0 < d.left ∧ (c < 255 → ∀ ks t, Calm (reopenZ d1 ks t) ∧ (reopenZ d1 ks t).now.length = m ∧ Mix d.now (reopenZ d1 ks t).now at0 n ct bs ∧ Low (reopenZ d1 ks t).now (c + 2) ∧ (reopenZ d1 ks t).left = -1)) := by
  have hlen := h.len
  have hl := h.lst
  have hle := h.le
  have hfit3 : at0 + ct ≤ d.now.length := by omega
  rcases batch_calm (n := n) h.calm hct hfit3 with ⟨d1, e, h1, h2, h3⟩ | ⟨d1, j, e, h1, h2, h3, h4⟩
  · left
    have hm := putK_mix d.now at0 n ct bs hfit3
    have hnw := putK_new d.now at0 n ct bs hfit3
    rw [← h2] at hm hnw
    obtain ⟨l1, l2⟩ := mix_halves (k := n + 1) hm (by omega) (by omega) (h.lowA.mono (by omega)) (h.lowB.mono (by omega)) (by rw [hlen]; exact hfit)
    exact ⟨d1, e, h1, by rw [hm.len]; exact hlen, hm, hnw, mix_low hm (h.low.mono (by omega)) (by omega) (by omega), l1, l2, h3⟩
  · right
    refine ⟨d1, e, by rw [h2, wrs_len]; omega, h4, fun hc2 ks t => ?_⟩
    obtain ⟨r1, r2, r3⟩ := reopen_mix h2 h3 h1 hfit3 (by omega) (fun i s a1 a2 a3 => by
      have := h.lows (i := i) (s := s) (by omega) a3
      omega) ks t
    exact ⟨r1, by rw [r2.len]; exact hlen, r2, mix_low r2 (h.low.mono (by omega)) (by omega) (by omega), r3⟩
theorem pick_parts {N N' : List Sec} (h : pick N' = pick N) : (chosen N').b = (chosen N).b := congrArg (fun x : Nat × Nat × List UInt8 => x.2.2) h
theorem pick_used {N N' : List Sec} (h : pick N' = pick N) : (chosen N').used = (chosen N).used := congrArg (fun x : Nat × Nat × List UInt8 => x.2.1) h
theorem pick_is {N : List Sec} {a u : Nat} {b : List UInt8} (h : pick N = (a, u, b)) : baseZ N = a ∧ (chosen N).used = u ∧ (chosen N).b = b := by
  unfold pick at h
  simp only [Prod.mk.injEq] at h
  exact h
/-- Records added. -/
theorem Jn.add (h : Jn d l rs c m) (hc : c < 4294967200) (hg : ∀ r ∈ news, r.good) (hne : news ≠ []) (hroom : secsN (framesB news).length ≤ l.half - l.used) :
    ∃ d1 l1 e, addZ d l news = (d1, l1, e) ∧ ((e = 0 ∧ Jn d1 l1 (rs ++ news) (c + 1) m ∧ l1.half = l.half ∧ l1.used = l.used + secsN (framesB news).length ∧ (d.left ≤ 0 → d1.left = d.left)) ∨
      (e = 22 ∧ d1.wait.length ≤ 2400 ∧ 0 < d.left ∧ (c < 255 → ∀ ks t, (Jd (reopenZ d1 ks t) rs (c + 1) m ∨ Jd (reopenZ d1 ks t) (rs ++ news) (c + 1) m) ∧ (reopenZ d1 ks t).left = -1 ∧ (chosen (reopenZ d1 ks t).now).used ≤ l.used + secsN (framesB news).length))) := by
  have hlen := h.len
  have hl := h.lst
  have hbo := base_or d.now
  have hcu := chosen_used d.now
  have hsp := secsN_pos (framesB news).length
  have hh := h.half
  have hu := h.used
  have hb := h.base
  rw [hlen] at hbo hcu
  have hfit2 : l.base + l.used + secsN (framesB news).length ≤ 2 * (m / 2) := by omega
  have hfit1 : l.base + l.used + secsN (framesB news).length ≤ m / 2 ∨ m / 2 ≤ l.base + l.used := by omega
  have hgood : ∀ r ∈ rs ++ news, r.good := fun r hr => by
    rcases List.mem_append.1 hr with h1 | h1
    · exact h.good r h1
    · exact hg r h1
  have hpk : ∀ {N' : List Sec}, Mix d.now N' (l.base + l.used) (l.last + 1) (secsN (framesB news).length) (framesB news) → _ := fun {N'} hm =>
    pick_add (N := d.now) (N' := N') (n := l.last + 1) (ct := secsN (framesB news).length) (bs := framesB news) h.lowA h.lowB (by omega) (by omega) rfl (by have := h.le; omega) (by rw [← hb, ← hu]; exact hm) (by rw [← hu, hlen]; omega)
  have hz : addZ d l news = match batchZ d (l.base + l.used) (l.last + 1) (framesB news) with
    | (d', e) => if e ≠ 0 then (d', { l with last := l.last + 1 }, e)
      else (d', { l with last := l.last + 1, used := l.used + secsN (framesB news).length, recs := l.recs ++ news }, 0) := by
    unfold addZ
    rw [if_neg hne, if_neg (by omega)]
  rcases h.batch hc (n := l.last + 1) rfl (ct := secsN (framesB news).length) rfl hfit1 hfit2 with ⟨d1, e, c1, c2, c3, c4, c5, c6, c7, c8⟩ | ⟨d1, e, c1, c2, c3⟩
  · rw [e] at hz
    simp only [ne_eq, not_true_eq_false, if_false] at hz
    refine ⟨_, _, _, hz, .inl ⟨rfl, ?_, rfl, rfl, c8⟩⟩
    rcases hpk c3 with ⟨hx, _⟩ | ⟨_, hp⟩
    · rw [← hb, ← hu] at hx; exact absurd c4 hx
    · obtain ⟨p1, p2, p3⟩ := pick_is hp
      exact ⟨⟨c1, c2, h.ge, h.le, c5, by rw [p3, h.bytes, framesB_app], hgood⟩, hh, by rw [p1]; exact hb, by rw [p2, ← hu], by show l.recs ++ news = _; rw [h.recs], by show l.last + 1 ≤ _; omega, c6, c7⟩
  · rw [e] at hz
    simp only [ne_eq, show ¬ ((22 : Int) = 0) by decide, not_false_eq_true, if_true] at hz
    refine ⟨_, _, _, hz, .inr ⟨rfl, c1, c2, fun hc2 ks t => ?_⟩⟩
    obtain ⟨r1, r2, r3, r4, r5⟩ := c3 hc2 ks t
    rcases hpk r3 with ⟨_, hp⟩ | ⟨_, hp⟩
    · exact ⟨.inl ⟨r1, r2, h.ge, h.le, r4, by rw [pick_parts hp, h.bytes], h.good⟩, r5, by rw [pick_used hp]; omega⟩
    · exact ⟨.inr ⟨r1, r2, h.ge, h.le, r4, by rw [(pick_is hp).2.2, h.bytes, framesB_app], hgood⟩, r5, by rw [(pick_is hp).2.1]; omega⟩
theorem Jn.repl (h : Jn d l rs c m) (hc : c < 4294967200) (hg : ∀ r ∈ news, r.good) (hroom : secsN (framesB news).length ≤ l.half) :
    ∃ d1 l1 e, replZ d l news = (d1, l1, e) ∧ ((e = 0 ∧ Jn d1 l1 news (c + 1) m ∧ l1.half = l.half ∧ l1.used = secsN (framesB news).length ∧ (d.left ≤ 0 → d1.left = d.left)) ∨
      (e = 22 ∧ d1.wait.length ≤ 2400 ∧ 0 < d.left ∧ (c < 255 → ∀ ks t, (Jd (reopenZ d1 ks t) rs (c + 1) m ∨ Jd (reopenZ d1 ks t) news (c + 1) m) ∧ (reopenZ d1 ks t).left = -1 ∧ (chosen (reopenZ d1 ks t).now).used ≤ l.used + secsN (framesB news).length))) := by
  have hlen := h.len
  have hl := h.lst
  have hbo := base_or d.now
  have hsp := secsN_pos (framesB news).length
  have hh := h.half
  have hu := h.used
  have hb := h.base
  rw [hlen] at hbo
  have hfit2 : l.half - l.base + secsN (framesB news).length ≤ 2 * (m / 2) := by omega
  have hfit1 : l.half - l.base + secsN (framesB news).length ≤ m / 2 ∨ m / 2 ≤ l.half - l.base := by omega
  have hpk : ∀ {N' : List Sec}, Mix d.now N' (l.half - l.base) (l.last + 1) (secsN (framesB news).length) (framesB news) → _ := fun {N'} hm =>
    pick_repl (N := d.now) (N' := N') (n := l.last + 1) (ct := secsN (framesB news).length) (bs := framesB news) h.lowA h.lowB (by omega) (by omega) rfl (by have := h.le; omega) (by rw [hlen, ← hb, ← hh]; exact hm) (by rw [hlen]; omega)
  have hz : replZ d l news = match batchZ d (l.half - l.base) (l.last + 1) (framesB news) with
    | (d', e) => if e ≠ 0 then (d', { l with last := l.last + 1 }, e)
      else (d', { half := l.half, base := l.half - l.base, used := secsN (framesB news).length, last := l.last + 1, recs := news }, 0) := by
    unfold replZ
    rw [if_neg (by omega)]
  rcases h.batch hc (n := l.last + 1) rfl (ct := secsN (framesB news).length) rfl hfit1 hfit2 with ⟨d1, e, c1, c2, c3, c4, c5, c6, c7, c8⟩ | ⟨d1, e, c1, c2, c3⟩
  · rw [e] at hz
    simp only [ne_eq, not_true_eq_false, if_false] at hz
    refine ⟨_, _, _, hz, .inl ⟨rfl, ?_, rfl, rfl, c8⟩⟩
    rcases hpk c3 with ⟨hx, _⟩ | ⟨_, hp⟩
    · rw [hlen, ← hb, ← hh] at hx; exact absurd c4 hx
    · obtain ⟨p1, p2, p3⟩ := pick_is hp
      exact ⟨⟨c1, c2, h.ge, h.le, c5, p3, hg⟩, hh, by rw [p1, hlen, ← hb, ← hh], by rw [p2], rfl, by show l.last + 1 ≤ _; omega, c6, c7⟩
  · rw [e] at hz
    simp only [ne_eq, show ¬ ((22 : Int) = 0) by decide, not_false_eq_true, if_true] at hz
    refine ⟨_, _, _, hz, .inr ⟨rfl, c1, c2, fun hc2 ks t => ?_⟩⟩
    obtain ⟨r1, r2, r3, r4, r5⟩ := c3 hc2 ks t
    rcases hpk r3 with ⟨_, hp⟩ | ⟨_, hp⟩
    · exact ⟨.inl ⟨r1, r2, h.ge, h.le, r4, by rw [pick_parts hp, h.bytes], h.good⟩, r5, by rw [pick_used hp]; omega⟩
    · exact ⟨.inr ⟨r1, r2, h.ge, h.le, r4, (pick_is hp).2.2, hg⟩, r5, by rw [(pick_is hp).2.1]; omega⟩
end
/-- A new disk. -/
theorem scan_zero {l : List Sec} (h : ∀ s ∈ l, s = secOf []) : ∀ k, (scanTo l k).first = 0 ∧ (scanTo l k).used = 0 ∧ (scanTo l k).b = []
  | 0 => ⟨rfl, rfl, rfl⟩
  | k + 1 => by
    obtain ⟨h1, h2, h3⟩ := scan_zero h k
    cases e : l[k]? with
    | none => simp only [scanTo, e]; exact ⟨h1, h2, h3⟩
    | some s =>
      have hz := (secs0_hn s (h s (List.mem_of_getElem? e))).1
      rw [scanTo_succ e]
      rcases step_three (k := k) (z := scanTo l k) (s := s) with ⟨e1, e2, e3⟩ | ⟨_, _, _, _, e5, _⟩
      · rw [e1, e2, e3]; exact ⟨h1, h2, h3⟩
      · exact absurd hz e5
theorem newJd (m : Nat) (h8 : 8 ≤ m) (hm : m ≤ 2400) : Jd ⟨List.replicate m (secOf []), List.replicate m (secOf []), [], -1, false⟩ [] 0 m := by
  have hall : ∀ s ∈ List.replicate m (secOf []), s = secOf [] := fun s hs => (List.mem_replicate.1 hs).2
  have hA0 := scan_zero (l := hA (List.replicate m (secOf []))) (fun s hs => hall s (List.mem_of_mem_drop (List.mem_of_mem_take hs)))
  have hB0 := scan_zero (l := hB (List.replicate m (secOf []))) (fun s hs => hall s (List.mem_of_mem_drop (List.mem_of_mem_take hs)))
  refine ⟨⟨rfl, rfl, rfl⟩, by simp, h8, hm, fun s hs => ?_, ?_, fun r hr => (by cases hr)⟩
  · have := secs0_hn s (hall s hs); omega
  · show (chosen (List.replicate m (secOf []))).b = _
    unfold chosen
    rw [halfA_eq, halfB_eq]
    split
    · exact (hB0 _).2.2
    · exact (hA0 _).2.2
theorem newJn_used (m : Nat) : (chosen (List.replicate m (secOf []))).used = 0 := by
  have hall : ∀ s ∈ List.replicate m (secOf []), s = secOf [] := fun s hs => (List.mem_replicate.1 hs).2
  have hA0 := scan_zero (l := hA (List.replicate m (secOf []))) (fun s hs => hall s (List.mem_of_mem_drop (List.mem_of_mem_take hs)))
  have hB0 := scan_zero (l := hB (List.replicate m (secOf []))) (fun s hs => hall s (List.mem_of_mem_drop (List.mem_of_mem_take hs)))
  unfold chosen
  rw [halfA_eq, halfB_eq]
  split
  · exact (hB0 _).2.1
  · exact (hA0 _).2.1
end Go.Proofs.Ytnmbmccigpljnaa.GL
