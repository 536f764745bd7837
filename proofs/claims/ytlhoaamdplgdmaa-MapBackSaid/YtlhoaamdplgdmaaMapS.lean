/- Layer 7, plain: what Put makes of numbers, Read finds again; the reference's Put. -/
import Derived.Test.YtlhoaamdplgdmaaMapR
namespace Go.Proofs.Ytlhoaamdplgdmaa.GL
open Go Go.RowKit
set_option maxRecDepth 10000
set_option pp.deepTerms.threshold 8
set_option pp.maxSteps 3000
set_option linter.unusedSimpArgs false
set_option linter.unusedVariables false

theorem bitOf_test (c : UInt8) (k : Nat) : bitOf c k = c.toNat.testBit k := (Nat.testBit_eq_decide_div_mod_eq).symm
theorem bitOf_or (c : UInt8) (k j : Nat) (hk : k ≤ 7) : bitOf (c ||| UInt8.ofNat (2 ^ k)) j = (bitOf c j || decide (k = j)) := by
  have h2 : (2 : Nat) ^ k < 256 := Nat.lt_of_le_of_lt (Nat.pow_le_pow_right (by decide) hk) (by decide)
  rw [bitOf_test, bitOf_test, UInt8.toNat_or, Nat.testBit_or, UInt8.toNat_ofNat', Nat.mod_eq_of_lt h2, Nat.testBit_two_pow]
theorem bitOf_zero (k : Nat) : bitOf 0 k = false := by simp [bitOf]

theorem has_setBit (b : List UInt8) (x i : Int) (hx : 1 ≤ x ∧ x ≤ 128) (hb : ((x - 1) / 8).toNat < b.length) (hi : 1 ≤ i ∧ i ≤ 128) : hasB (setBit b x) i = (hasB b i || decide (i = x)) := by
  unfold hasB
  simp only [hi.1, hi.2, and_self, decide_true, Bool.true_and]
  rw [setBit_at b x hb, List.getElem?_set]
  by_cases he : ((x - 1) / 8).toNat = ((i - 1) / 8).toNat
  · rw [if_pos he, if_pos hb, ← he, List.getElem?_eq_getElem hb]
    simp only
    rw [bitOf_or _ _ _ (by omega)]
    congr 1
    apply decide_eq_decide.2
    omega
  · rw [if_neg he]
    have : decide (i = x) = false := by apply decide_eq_false; intro h; subst h; exact he rfl
    rw [this, Bool.or_false]
theorem has_append (b m : List UInt8) (i : Int) (h : i ≤ 8 * b.length) : hasB (b ++ m) i = hasB b i := by
  unfold hasB
  by_cases h1 : 1 ≤ i ∧ i ≤ 128
  · rw [List.getElem?_append_left (by omega)]
  · simp only [h1, decide_false, Bool.false_and]
theorem has_zeros (n : Nat) (i : Int) : hasB (List.replicate n 0) i = false := by
  unfold hasB
  rw [List.getElem?_replicate]
  split
  · rename_i c h
    split at h
    · cases h; simp [bitOf_zero]
    · cases h
  · simp
theorem has_beyond (b : List UInt8) (i : Int) (h : 8 * (b.length : Int) < i) : hasB b i = false := by
  unfold hasB
  rw [List.getElem?_eq_none (by omega)]
  simp
theorem has_grow (b : List UInt8) (hb : b.length = 8) (i : Int) (hi : 1 ≤ i ∧ i ≤ 128) : hasB ((b ++ List.replicate 8 0).set 0 (b.getD 0 0 ||| 128)) i = (hasB b i || decide (i = 1)) := by
  have hlen : (b ++ List.replicate 8 (0 : UInt8)).length = 16 := by simp [hb]
  have e : (b ++ List.replicate 8 (0 : UInt8)).set 0 (b.getD 0 0 ||| 128) = setBit (b ++ List.replicate 8 0) 1 := by
    rw [setBit_at _ 1 (by rw [hlen]; decide)]
    have e0 : (((1 : Int) - 1) / 8).toNat = 0 := by decide
    have e7 : ((7 : Int) - (1 - 1) % 8).toNat = 7 := by decide
    cases b with
    | nil => simp at hb
    | cons c r => rfl
  rw [e, has_setBit _ _ _ (by decide) (by rw [hlen]; decide) hi]
  congr 1
  by_cases h64 : i ≤ 64
  · exact has_append _ _ _ (by omega)
  · rw [has_beyond b i (by omega)]
    unfold hasB
    simp only [hi.1, hi.2, and_self, decide_true, Bool.true_and]
    rw [List.getElem?_append_right (by omega), List.getElem?_replicate]
    split
    · rename_i c h
      split at h
      · cases h; exact bitOf_zero _
      · cases h
    · rfl

theorem scan_ext (p q : Int → Bool) : ∀ m : Nat, (∀ j : Nat, j < m → p ((j : Int) + 2) = q ((j : Int) + 2)) → scanB p m = scanB q m
  | 0, _ => rfl
  | m + 1, h => by simp only [scanB, scan_ext p q m (fun j hj => h j (by omega)), h m (by omega)]
theorem scan_none (p : Int → Bool) (m : Nat) : ∀ d : Nat, (∀ j : Nat, m ≤ j → j < m + d → p ((j : Int) + 2) = false) → scanB p (m + d) = scanB p m
  | 0, _ => rfl
  | d + 1, h => by
    rw [← Nat.add_assoc]
    simp only [scanB, h (m + d) (by omega) (by omega), scan_none p m d (fun j h1 h2 => h j h1 (by omega))]
    simp

structure Good (ys : List Int) (last : Int) (bs : List UInt8) : Prop where
  l1 : 1 ≤ last
  l2 : last ≤ 128
  len : (bs.length = 8 ∧ last ≤ 64 ∧ hasB bs 1 = false) ∨ (bs.length = 16 ∧ 64 < last ∧ hasB bs 1 = true)
  off : ∀ i, last < i → hasB bs i = false
  scan : scanB (hasB bs) (last - 1).toNat = ys
  end' : (ys = [] ∧ last = 1) ∨ ys.getLast? = some last
theorem good_nil : Good [] 1 (List.replicate 8 0) := ⟨by decide, by decide, .inl ⟨rfl, by decide, has_zeros _ _⟩, fun i _ => has_zeros _ _, rfl, .inl ⟨rfl, rfl⟩⟩
theorem good_step {ys : List Int} {last : Int} {bs : List UInt8} (h : Good ys last bs) (x : Int) (h1 : last < x) (h2 : x ≤ 128) : Good (ys ++ [x]) x (setBit (grow8 bs x) x) := by
  have hl1 := h.l1
  have hg : ∃ g, g = grow8 bs x ∧ ((g.length = 8 ∧ x ≤ 64 ∧ hasB g 1 = false) ∨ (g.length = 16 ∧ 64 < x ∧ hasB g 1 = true)) ∧ ∀ i, 2 ≤ i → i ≤ 128 → hasB g i = hasB bs i := by
    refine ⟨_, rfl, ?_, ?_⟩
    · rcases h.len with ⟨hb, hl, hf⟩ | ⟨hb, hl, hf⟩
      · by_cases hx : 64 < x
        · have e : grow8 bs x = (bs ++ List.replicate 8 0).set 0 (bs.getD 0 0 ||| 128) := by simp [grow8, hx, hb]
          refine .inr ⟨by rw [e]; simp [hb], hx, ?_⟩
          rw [e, has_grow bs hb 1 (by decide)]; simp
        · have e : grow8 bs x = bs := by simp [grow8, hx]
          rw [e]; exact .inl ⟨hb, by omega, hf⟩
      · have e : grow8 bs x = bs := by simp [grow8, hb]
        rw [e]; exact .inr ⟨hb, by omega, hf⟩
    · intro i hi hi2
      unfold grow8
      split
      · rename_i hx
        rw [has_grow bs hx.2 i (by omega)]
        have : decide (i = 1) = false := decide_eq_false (by omega)
        rw [this, Bool.or_false]
      · rfl
  obtain ⟨g, rfl, hgl, hgh⟩ := hg
  generalize grow8 bs x = g at hgl hgh
  have hxg : ((x - 1) / 8).toNat < g.length := by rcases hgl with ⟨a, b, _⟩ | ⟨a, b, _⟩ <;> omega
  have hs : ∀ i, 1 ≤ i → i ≤ 128 → hasB (setBit g x) i = (hasB g i || decide (i = x)) := fun i a b => has_setBit g x i (by omega) hxg ⟨a, b⟩
  have hbig : ∀ (b : List UInt8) (i : Int), 128 < i → hasB b i = false := fun b i hi => by
    unfold hasB
    have : decide (1 ≤ i ∧ i ≤ 128) = false := decide_eq_false (by omega)
    rw [this, Bool.false_and]
  refine ⟨by omega, h2, ?_, ?_, ?_, .inr (by simp)⟩
  · rw [setBit_len, hs 1 (by omega) (by omega)]
    have : decide ((1 : Int) = x) = false := decide_eq_false (by omega)
    rw [this, Bool.or_false]
    exact hgl
  · intro i hi
    by_cases h128 : 128 < i
    · exact hbig _ _ h128
    · rw [hs i (by omega) (by omega), hgh i (by omega) (by omega), h.off i (by omega)]
      have : decide (i = x) = false := decide_eq_false (by omega)
      rw [this]; rfl
  · obtain ⟨m, hm⟩ : ∃ m : Nat, m = (last - 1).toNat := ⟨_, rfl⟩
    obtain ⟨d, hd⟩ : ∃ d : Nat, (x - 1).toNat = m + d + 1 := ⟨(x - 1).toNat - m - 1, by omega⟩
    have hx2 : ((m + d : Nat) : Int) + 2 = x := by omega
    rw [hd]
    have e1 : scanB (hasB (setBit g x)) (m + d + 1) = scanB (hasB (setBit g x)) (m + d) ++ [x] := by
      have hpx : hasB (setBit g x) x = true := by rw [hs x (by omega) h2]; simp
      simp only [scanB]
      rw [hx2, hpx]; rfl
    rw [e1, scan_none _ m d, scan_ext _ (hasB bs) m, hm, h.scan]
    · intro j hj
      rw [hs _ (by omega) (by omega), hgh _ (by omega) (by omega)]
      have : decide (((j : Int) + 2) = x) = false := decide_eq_false (by omega)
      rw [this, Bool.or_false]
    · intro j hj1 hj2
      rw [hs _ (by omega) (by omega), hgh _ (by omega) (by omega), h.off _ (by omega)]
      have : decide (((j : Int) + 2) = x) = false := decide_eq_false (by omega)
      rw [this]; rfl
theorem good_go : ∀ (zs ys : List Int) (last : Int) (bs r : List UInt8), Good ys last bs → putGo zs last bs = some r → ∃ l, Good (ys ++ zs) l r
  | [], ys, last, bs, r, h, e => by
    simp only [putGo, Option.some.injEq] at e
    subst e
    exact ⟨last, by simpa using h⟩
  | x :: zs, ys, last, bs, r, h, e => by
    simp only [putGo] at e
    split at e
    · cases e
    · rename_i hx
      have := good_go zs (ys ++ [x]) x _ r (good_step h x (by omega) (by omega)) e
      simpa using this
theorem read_put (zs : List Int) (bs more : List UInt8) (h : putB zs = some bs) : readB (bs ++ more) = some zs ∧ sizeB (bs ++ more) = bs.length ∧ bs.length ≤ 16 := by
  obtain ⟨last, hg⟩ := good_go zs [] 1 _ bs good_nil h
  rw [List.nil_append] at hg
  have hlen : bs.length = 8 ∨ bs.length = 16 := by rcases hg.len with ⟨a, _⟩ | ⟨a, _⟩ <;> omega
  have hsz : sizeB (bs ++ more) = bs.length := by
    unfold sizeB
    rw [has_append _ _ _ (by omega)]
    rcases hg.len with ⟨a, _, c⟩ | ⟨a, _, c⟩ <;> rw [c, a] <;> rfl
  have hl1 := hg.l1
  have hsc : scanB (hasB bs) (8 * bs.length - 1) = zs := by
    obtain ⟨d, hd⟩ : ∃ d : Nat, 8 * bs.length - 1 = (last - 1).toNat + d := ⟨8 * bs.length - 1 - (last - 1).toNat, by rcases hg.len with ⟨a, b, _⟩ | ⟨a, b, _⟩ <;> have := hg.l2 <;> omega⟩
    rw [hd, scan_none _ _ d, hg.scan]
    intro j h1 h2
    exact hg.off _ (by omega)
  refine ⟨?_, hsz, by omega⟩
  simp only [readB, hsz]
  rw [if_neg (by simp), List.take_left, hsc, if_neg]
  rintro ⟨h16, hlate⟩
  rcases hg.len with ⟨a, _⟩ | ⟨a, h64, _⟩
  · omega
  · rcases hg.end' with ⟨_, h1⟩ | h1
    · omega
    · simp [lateB, h1] at hlate
      omega
end Go.Proofs.Ytlhoaamdplgdmaa.GL
