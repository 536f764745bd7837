/- Layer 4: the contracts of Number (as in layer 1).; Layer 4: the contracts of Bytes and Put (as in layer 1).; Layer 4: the sum of bytes.; Layer 4: records; digits; counts.; Layer 4: which records may be.; Layer 4: slices.Grow, slices.Concat of bytes.; Layer 4: Put. -/
import Derived.Test.YtnmbmccigpljnaaGlT
import Derived.Test.YtnmbmccigpljnaaGlU
import Derived.Test.YtnmbmccigpljnaaGlX
import Derived.Test.YtnmbmccigpljnaaGlY
import Derived.Test.YtnmbmccigpljnaaGlK
import Derived.Test.YtnmbmccigpljnaaGlO
namespace Go.Proofs.Ytnmbmccigpljnaa.GL
open Go Go.RowKit
set_option maxRecDepth 10000
set_option pp.deepTerms.threshold 8
set_option pp.maxSteps 3000
set_option linter.unusedSimpArgs false
set_option linter.unusedVariables false

def i64In (v : Int) : Prop := -9223372036854775808 ≤ v ∧ v ≤ 9223372036854775807
def numGo : List UInt8 → Nat → Option Nat
  | [], v => some v
  | c :: r, v => if v / 2 ^ 56 ≠ 0 then none else numGo r (v * 256 + c.toNat)
def numB (bs : List UInt8) : Option Nat := numGo bs 0
def numV (o : Option Nat) : Value := match o with
  | some v => .tuple #[.int .u64 v, .bool true]
  | none => .tuple #[.int .u64 0, .bool false]

theorem num_step (v : Nat) (c : UInt8) (h : v < 2 ^ 56) : orK .u64 (shlK .u64 (v : Int) 8) (c.toNat : Int) = ((v * 256 + c.toNat : Nat) : Int) := by
  have hc := c.toNat_lt
  have e : shlK .u64 (v : Int) 8 = ((v * 256 : Nat) : Int) := by
    unfold shlK
    have : (v : Int) * 2 ^ (min (Int.toNat 8) IntKind.u64.bits) = ((v * 256 : Nat) : Int) := by simp [IntKind.bits]
    rw [this]
    exact wrap_nat _ _ (by simp only [IntKind.bits]; omega) rfl
  rw [e, orK_nat _ _ _ (by simp only [IntKind.bits]; omega) (by simp only [IntKind.bits]; omega) rfl]
  have : v * 256 ||| c.toNat = v * 256 + c.toNat := by
    have := Nat.two_pow_add_eq_or_of_lt (i := 8) (b := c.toNat) (by omega) v
    rw [show v * 256 = 2 ^ 8 * v by omega]
    exact this.symm
  rw [this]
theorem shr56 (v : Nat) : shrK .u64 (v : Int) 56 = ((v / 2 ^ 56 : Nat) : Int) := shrK_nat _ _ _ (by decide)

theorem number_c (a : Option Addr) (n c : Nat) (bs : List UInt8) (H : Heap) (h : SlA H a n 1 (bs.map u8V)) (hn : n ≤ 140737488351232) :
    ECalls Try.prog 39 #[.slice a n c] H fun r H' => r = numV (numB bs) ∧ H' = H := by
  refine ecalls_of_ewp (args := [_]) Try.func39 rfl rfl rfl (by simp [Try.ntmps39]) (by kernel_rfl) ?_
  have hl : bs.length = n := by simpa using h.len
  simp (disch := first | omega | assumption | decide | (simp <;> omega) | fail) [facts, ]
  refine w_loop (fun s => ∃ k : Nat, k ≤ n ∧ s.env 7 = .slice a n c ∧ s.env 8 = .int .i64 n ∧ s.env 9 = .int .i64 k ∧ ∃ v : Nat, s.env 4 = .int .u64 v ∧ v < 2 ^ 64 ∧ s.heap = H ∧ numGo (bs.drop k) v = numB bs) (fun s => n - (intOf (s.env 9)).toNat) ?_ ?_
  · exact ⟨0, Nat.zero_le _, by simp, by simp, by simp, 0, by simp, by decide, rfl, rfl⟩
  · rintro ⟨e, H1⟩ ⟨k, hk, e7, e8, e9, v, e4, hv, hH, hgo⟩
    simp only at e7 e8 e9 e4 hH
    subst hH
    by_cases hlt : k < n
    · obtain ⟨x, hx⟩ : ∃ x, bs[k]? = some x := ⟨_, List.getElem?_eq_getElem (by omega)⟩
      have hd : bs.drop k = x :: bs.drop (k + 1) := by
        rw [List.drop_eq_getElem_cons (by omega)]
        congr 1
        rw [List.getElem?_eq_getElem (by omega)] at hx
        exact Option.some.inj hx
      have gx := h.at hx
      rw [u8V_def] at gx
      have px := h.plain
      have tx := h.there (by omega)
      rw [hd] at hgo
      by_cases h56 : v / 2 ^ 56 = 0
      · have hs : shrK .u64 (v : Int) 56 = 0 := by rw [shr56, h56]; rfl
        have hc := x.toNat_lt
        simp (disch := first | omega | assumption | decide | (simp <;> omega) | fail) [facts, e7, e8, e9, e4, hlt, gx, hs]
        rw [num_step v x (by omega)]
        refine ⟨_, Heap.le_refl _, ⟨k + 1, by omega, by simp [e7], by simp [e8], by simp, v * 256 + x.toNat, by simp, by omega, rfl, ?_⟩, by simp [intOf, e9]; omega⟩
        rw [← hgo]; simp only [numGo]; rw [if_neg (by omega)]
      · have hs : ¬ shrK .u64 (v : Int) 56 = 0 := by rw [shr56]; omega
        have hno : numB bs = none := by rw [← hgo]; simp only [numGo]; rw [if_pos h56]
        simp (disch := first | omega | assumption | decide | (simp <;> omega) | fail) [facts, e7, e8, e9, e4, hlt, gx, hs, hno, numV]
    · have hkn : k = n := by omega
      have hno : numB bs = some v := by rw [← hgo, hkn, ← hl, List.drop_length]; rfl
      simp (disch := first | omega | assumption | decide | (simp <;> omega) | fail) [facts, e7, e8, e9, e4, hlt, hno, numV]

theorem numGo_lt : ∀ (bs : List UInt8) (v w : Nat), v < 2 ^ 64 → numGo bs v = some w → w < 2 ^ 64
  | [], v, w, h, e => by simp only [numGo, Option.some.injEq] at e; omega
  | c :: r, v, w, h, e => by
    simp only [numGo] at e
    split at e
    · cases e
    · have := c.toNat_lt
      exact numGo_lt r _ w (by omega) e
end Go.Proofs.Ytnmbmccigpljnaa.GL

namespace Go.Proofs.Ytnmbmccigpljnaa.GL
open Go Go.RowKit
set_option maxRecDepth 10000
set_option pp.deepTerms.threshold 8
set_option pp.maxSteps 3000
set_option linter.unusedSimpArgs false
set_option linter.unusedVariables false

def byteAt (v i : Nat) : UInt8 := if i < 8 then UInt8.ofNat (v / 2 ^ (8 * i)) else 0
def sizeZ (n : Int) : Nat := (min n 64).toNat
/-- m bytes, the highest first. -/
def bytesL (v m : Nat) : List UInt8 := (List.range m).map fun j => byteAt v (m - 1 - j)
theorem bytesL_len (v m : Nat) : (bytesL v m).length = m := by simp [bytesL]
theorem bytesL_at (v m j : Nat) (h : j < m) : (bytesL v m)[j]? = some (byteAt v (m - 1 - j)) := by
  simp [bytesL, h]
theorem byte_conv (v i : Nat) (hi : i < 8) (hv : v < 2 ^ 64) : IntKind.wrap .u8 (shrK .u64 (v : Int) (8 * (i : Int))) = ((byteAt v i).toNat : Int) := by
  have e : ((8 : Int) * i).toNat = 8 * i := by omega
  rw [shrK_nat _ _ _ (by simp only [IntKind.bits]; omega), e]
  unfold byteAt
  rw [if_pos hi, UInt8.toNat_ofNat']
  simp only [IntKind.wrap, IntKind.bits, IntKind.signed, Bool.false_and]
  simp

theorem bytes_c (v : Nat) (n : Int) (H : Heap) (hv : v < 2 ^ 64) (hn : i64In n) :
    ECalls Try.prog 45 #[.int .u64 v, .int .i64 n] H fun r H' => Heap.le H H' ∧ Out H H' r 1 (sizeZ n) ((bytesL v (sizeZ n)).map u8V) := by
  refine ecalls_of_ewp (args := [_, _]) Try.func45 rfl rfl rfl (by simp [Try.ntmps45]) (by kernel_rfl) ?_
  unfold i64In at hn
  simp (disch := first | omega | assumption | decide | (simp <;> omega) | fail) [facts, ]
  generalize hj : IntKind.i64.wrap (min n 64 - 1) = j
  have hjj : 0 < n → j = min n 64 - 1 := fun h0 => by rw [← hj]; exact wr_i64 (by omega) (by omega)
  refine w_loop (fun s => ∃ k : Nat, k ≤ sizeZ n ∧ s.env 0 = .int .u64 v ∧ s.env 1 = .int .i64 n ∧ s.env 6 = .int .i64 (j - k) ∧ Heap.le H s.heap ∧ Out H s.heap (s.env 5) 1 k (((bytesL v (sizeZ n)).map u8V).take k)) (fun s => (intOf (s.env 6) + 1).toNat) ?_ ?_
  · exact ⟨0, Nat.zero_le _, by simp, by simp, by simp, Heap.le_refl _, by simp [Out.nil]⟩
  · rintro ⟨e, H1⟩ ⟨k, hk, e0, e1, e6, hle, hout⟩
    simp only at e0 e1 e6 hle hout
    generalize e5 : e 5 = sv at hout
    by_cases h0 : 0 < n
    · have hm : sizeZ n = (min n 64).toNat := rfl
      by_cases hlt : k < sizeZ n
      · obtain ⟨i, hi⟩ : ∃ i : Nat, i = sizeZ n - 1 - k := ⟨_, rfl⟩
        have hii : j - (k : Int) = i := by have := hjj h0; omega
        rw [hii] at e6
        have hat := bytesL_at v (sizeZ n) k hlt
        rw [← hi] at hat
        have htk := take_snoc (xs := (bytesL v (sizeZ n)).map u8V) (k := k) (x := u8V (byteAt v i)) (by rw [List.getElem?_map, hat]; rfl)
        by_cases h8 : (i : Int) < 8
        · have hb := byte_conv v i (by omega) hv
          simp (disch := first | omega | assumption | decide | (simp <;> omega) | fail) [facts, e0, e1, e5, e6, h0, h8, hb]
          refine fresh_intro fun b hb1 => ?_
          simp (disch := first | omega | assumption | decide | (simp <;> omega) | fail) [facts, e0, e1, e5, e6]
          refine Out.app (e := 5) (s := 1) (nbs := 1) (z := .int .u8 0) (H := H) (by simp [facts]) (by simp [facts]) (by simp [facts]) (by simp [facts]) rfl (by decide) (Heap.le_trans hle (le_upd _ hb1)) (hout.up (le_upd _ hb1))
            (srcOne (e1 := 5) (z := .int .u8 0) (by simp [facts]) (by simp [facts]) (by simp [facts]) rfl) (by simp) (by simp [Value.oneCell']) (by omega) ?_
          intro sv2 H3 hle3 _ hout3
          simp (disch := first | omega | assumption | decide | (simp <;> omega) | fail) [facts, e0, e1, e6]
          refine ⟨_, Heap.le_refl _, ⟨k + 1, by omega, by simp [e0], by simp [e1], by simp; try omega, hle3, ?_⟩, by simp [intOf, e6]; try omega⟩
          rw [htk]
          simpa  using hout3
        · have hb : byteAt v i = 0 := by unfold byteAt; rw [if_neg (by omega)]
          simp (disch := first | omega | assumption | decide | (simp <;> omega) | fail) [facts, e0, e1, e5, e6, h0, h8]
          refine fresh_intro fun b hb1 => ?_
          simp (disch := first | omega | assumption | decide | (simp <;> omega) | fail) [facts, e0, e1, e5, e6]
          refine Out.app (e := 5) (s := 1) (nbs := 1) (z := .int .u8 0) (H := H) (by simp [facts]) (by simp [facts]) (by simp [facts]) (by simp [facts]) rfl (by decide) (Heap.le_trans hle (le_upd _ hb1)) (hout.up (le_upd _ hb1))
            (srcOne (e1 := 5) (z := .int .u8 0) (by simp [facts]) (by simp [facts]) (by simp [facts]) rfl) (by simp) (by simp [Value.oneCell']) (by omega) ?_
          intro sv2 H3 hle3 _ hout3
          simp (disch := first | omega | assumption | decide | (simp <;> omega) | fail) [facts, e0, e1, e6]
          refine ⟨_, Heap.le_refl _, ⟨k + 1, by omega, by simp [e0], by simp [e1], by simp; try omega, hle3, ?_⟩, by simp [intOf, e6]; try omega⟩
          rw [htk]
          simpa [hb] using hout3
      · have hkn : k = sizeZ n := by omega
        subst hkn
        simp (disch := first | omega | assumption | decide | (simp <;> omega) | fail) [facts, e0, e1, e5, e6, h0, show ¬ ((sizeZ n : Nat) : Int) ≤ j by have := hjj h0; omega]
        rw [List.take_of_length_le (by rw [List.length_map, bytesL_len]; exact Nat.le_refl _)] at hout
        exact ⟨_, Heap.le_refl _, hle, hout⟩
    · have hz : sizeZ n = 0 := by unfold sizeZ; omega
      have hk0 : k = 0 := by omega
      subst hk0
      simp (disch := first | omega | assumption | decide | (simp <;> omega) | fail) [facts, e0, e1, e5, e6, h0]
      rw [hz]
      exact ⟨_, Heap.le_refl _, hle, by simpa [bytesL] using hout⟩

def putL (v m i : Nat) : List UInt8 := (List.range m).map fun j => if m - 1 - j < i then byteAt v (m - 1 - j) else 0
theorem putL_len (v m i : Nat) : (putL v m i).length = m := by simp [putL]
theorem putL_zero (v m : Nat) : putL v m 0 = List.replicate m 0 := by
  apply List.ext_getElem?
  intro j
  by_cases h : j < m <;> simp [putL, h]
theorem putL_set (v m i : Nat) (hi : i < m) : (putL v m i).set (m - 1 - i) (byteAt v i) = putL v m (i + 1) := by
  apply List.ext_getElem?
  intro j
  rw [List.getElem?_set]
  by_cases hj : j < m
  · by_cases he : m - 1 - i = j
    · subst he
      rw [if_pos rfl]
      simp [putL, show m - 1 - i < m by omega, show m - 1 - (m - 1 - i) = i by omega]
    · rw [if_neg he]
      simp only [putL, List.getElem?_map, List.getElem?_range hj, Option.map_some]
      have : (m - 1 - j < i) ↔ (m - 1 - j < i + 1) := by omega
      simp only [this]
  · rw [if_neg (by omega)]
    simp [putL, hj]
theorem putL_all (v m i : Nat) (h : i = m ∨ 8 ≤ i) : putL v m i = bytesL v m := by
  apply List.ext_getElem?
  intro j
  by_cases hj : j < m
  · simp only [putL, bytesL, List.getElem?_map, List.getElem?_range hj, Option.map_some]
    by_cases hi : m - 1 - j < i
    · rw [if_pos hi]
    · rw [if_neg hi]
      unfold byteAt
      rw [if_neg (by omega)]
  · simp [putL, bytesL, hj]

theorem put_c (v : Nat) (n : Int) (H : Heap) (hv : v < 2 ^ 64) (hn : i64In n) :
    ECalls Try.prog 42 #[.int .u64 v, .int .i64 n] H fun r H' => Heap.le H H' ∧ Out H H' r 1 (sizeZ n) ((bytesL v (sizeZ n)).map u8V) := by
  refine ecalls_of_ewp (args := [_, _]) Try.func42 rfl rfl rfl (by simp [Try.ntmps42]) (by kernel_rfl) ?_
  have hm : min (max n 0) 64 = ((sizeZ n : Nat) : Int) := by unfold sizeZ; omega
  have hm64 : sizeZ n ≤ 64 := by unfold sizeZ; omega
  generalize hmm : sizeZ n = m at *
  simp (disch := first | omega | assumption | decide | (simp <;> omega) | fail) [facts, hm]
  refine fresh_intro fun b hb => ?_
  simp (disch := first | omega | assumption | decide | (simp <;> omega) | fail) [facts, hm]
  refine w_loop (fun s => ∃ k : Nat, k ≤ m ∧ k ≤ 8 ∧ s.env 0 = .int .u64 v ∧ s.env 1 = .int .i64 m ∧ s.env 5 = .slice (some ⟨b, 0, none⟩) m m ∧ s.env 6 = .int .i64 k ∧ s.heap = upd H b (.row true 0 ((putL v m k).map u8V) 0)) (fun s => m - (intOf (s.env 6)).toNat) ?_ ?_
  · refine ⟨0, Nat.zero_le _, by decide, by simp, by simp, by simp, by simp, ?_⟩
    rw [putL_zero]; simp
  · rintro ⟨e, H1⟩ ⟨k, hk, hk8, e0, e1, e5, e6, hH⟩
    simp only at e0 e1 e5 e6 hH
    subst hH
    have hlen := putL_len v m k
    by_cases hlt : k < m
    · by_cases h8 : (k : Int) < 8
      · have hb8 := byte_conv v k (by omega) hv
        simp (disch := first | omega | assumption | decide | (simp <;> omega) | fail) [facts, e0, e1, e5, e6, hlt, h8, hb8]
        have hset : (List.map u8V (putL v m k)).set (m - 1 - k) (Value.int .u8 ((byteAt v k).toNat : Int)) = (putL v m (k + 1)).map u8V := by
          rw [← putL_set v m k hlt, List.map_set]; rfl
        rw [hset, upd_upd]
        exact ⟨_, Heap.le_refl _, ⟨k + 1, by omega, by omega, by simp [e0], by simp [e1], by simp [e5], by simp, rfl⟩, by simp [intOf, e6]; omega⟩
      · simp (disch := first | omega | assumption | decide | (simp <;> omega) | fail) [facts, e0, e1, e5, e6, hlt, h8]
        rw [putL_all v m k (.inr (by omega))]
        exact ⟨_, Heap.le_refl _, le_upd _ hb, Out.fresh hb (by simp [bytesL_len]) (Nat.le_refl _) (by omega)⟩
    · simp (disch := first | omega | assumption | decide | (simp <;> omega) | fail) [facts, e0, e1, e5, e6, hlt]
      rw [putL_all v m k (.inl (by omega))]
      exact ⟨_, Heap.le_refl _, le_upd _ hb, Out.fresh hb (by simp [bytesL_len]) (Nat.le_refl _) (by omega)⟩
end Go.Proofs.Ytnmbmccigpljnaa.GL

namespace Go.Proofs.Ytnmbmccigpljnaa.GL
open Go Go.RowKit
set_option maxRecDepth 10000
set_option pp.deepTerms.threshold 8
set_option pp.maxSteps 3000
set_option linter.unusedSimpArgs false
set_option linter.unusedVariables false

def poly : Nat := 2197175160
def cs (x : Nat) : Nat := if x % 2 = 1 then x / 2 ^^^ poly else x / 2
def csN : Nat → Nat → Nat
  | 0, x => x
  | k + 1, x => csN k (cs x)
def cb (x : Nat) (c : UInt8) : Nat := csN 8 (x ^^^ c.toNat)
def crcS (bs : List UInt8) : Nat := bs.foldl cb 4294967295
def crcN (bs : List UInt8) : Nat := 4294967295 ^^^ crcS bs
theorem cs_lt {x : Nat} (h : x < 2 ^ 32) : cs x < 2 ^ 32 := by
  unfold cs
  split
  · exact Nat.xor_lt_two_pow (by omega) (by decide)
  · omega
theorem csN_lt : ∀ (k : Nat) {x : Nat}, x < 2 ^ 32 → csN k x < 2 ^ 32
  | 0, _, h => h
  | k + 1, _, h => csN_lt k (cs_lt h)
theorem csN_succ : ∀ (k x : Nat), csN (k + 1) x = cs (csN k x)
  | 0, x => rfl
  | k + 1, x => csN_succ k (cs x)
theorem cb_lt {x : Nat} (h : x < 2 ^ 32) (c : UInt8) : cb x c < 2 ^ 32 := csN_lt 8 (Nat.xor_lt_two_pow h (by have := c.toNat_lt; omega))
theorem foldl_lt : ∀ (bs : List UInt8) {x : Nat}, x < 2 ^ 32 → bs.foldl cb x < 2 ^ 32
  | [], _, h => h
  | c :: l, _, h => foldl_lt l (cb_lt h c)
theorem crcS_lt (bs : List UInt8) : crcS bs < 2 ^ 32 := foldl_lt bs (by decide)
theorem crcN_lt (bs : List UInt8) : crcN bs < 2 ^ 32 := Nat.xor_lt_two_pow (by decide) (crcS_lt bs)
theorem crcS_take {bs : List UInt8} {k : Nat} {c : UInt8} (h : bs[k]? = some c) : crcS (bs.take (k + 1)) = cb (crcS (bs.take k)) c := by
  unfold crcS
  rw [List.take_add_one, h]; simp
/-- Each step can be told back. -/
theorem cs_inj {x y : Nat} (hx : x < 2 ^ 32) (hy : y < 2 ^ 32) (h : cs x = cs y) : x = y := by
  have hb : ∀ z : Nat, z < 2 ^ 32 → (cs z).testBit 31 = decide (z % 2 = 1) := fun z hz => by
    unfold cs
    by_cases hz2 : z % 2 = 1
    · rw [if_pos hz2, Nat.testBit_xor, Nat.testBit_lt_two_pow (show z / 2 < 2 ^ 31 by omega)]
      simp [hz2]; decide
    · rw [if_neg hz2, Nat.testBit_lt_two_pow (show z / 2 < 2 ^ 31 by omega)]
      simp [hz2]
  have h1 := hb x hx
  have h2 := hb y hy
  rw [h] at h1
  have hm : (decide (x % 2 = 1)) = decide (y % 2 = 1) := h1.symm.trans h2
  have hm' : x % 2 = y % 2 := by
    by_cases a : x % 2 = 1 <;> by_cases b : y % 2 = 1 <;> simp [a, b] at hm <;> omega
  unfold cs at h
  rw [hm'] at h
  have hd : x / 2 = y / 2 := by
    by_cases a : y % 2 = 1
    · rw [if_pos a, if_pos a] at h
      have := congrArg (· ^^^ poly) h
      simpa [Nat.xor_assoc] using this
    · rw [if_neg a, if_neg a] at h
      exact h
  omega
theorem csN_inj : ∀ (k : Nat) {x y : Nat}, x < 2 ^ 32 → y < 2 ^ 32 → csN k x = csN k y → x = y
  | 0, _, _, _, _, h => h
  | k + 1, _, _, hx, hy, h => cs_inj hx hy (csN_inj k (cs_lt hx) (cs_lt hy) h)
theorem cb_inj {x y : Nat} {c : UInt8} (hx : x < 2 ^ 32) (hy : y < 2 ^ 32) (h : cb x c = cb y c) : x = y := by
  have hc := c.toNat_lt
  have := csN_inj 8 (Nat.xor_lt_two_pow hx (by omega)) (Nat.xor_lt_two_pow hy (by omega)) h
  have := congrArg (· ^^^ c.toNat) this
  simpa [Nat.xor_assoc] using this
theorem cb_injC {x : Nat} {c d : UInt8} (hx : x < 2 ^ 32) (h : cb x c = cb x d) : c = d := by
  have hc := c.toNat_lt
  have hd := d.toNat_lt
  have := csN_inj 8 (Nat.xor_lt_two_pow hx (by omega)) (Nat.xor_lt_two_pow hx (by omega)) h
  have := congrArg (x ^^^ ·) this
  simp only [← Nat.xor_assoc, Nat.xor_self, Nat.zero_xor] at this
  exact UInt8.toNat_inj.1 this
theorem foldl_inj : ∀ (bs : List UInt8) {x y : Nat}, x < 2 ^ 32 → y < 2 ^ 32 → bs.foldl cb x = bs.foldl cb y → x = y
  | [], _, _, _, _, h => h
  | c :: l, _, _, hx, hy, h => cb_inj hx hy (foldl_inj l (cb_lt hx c) (cb_lt hy c) h)
/-- One byte that is another: another sum. -/
theorem crc_one {bs : List UInt8} {i : Nat} {c d : UInt8} (h : bs[i]? = some c) (hne : d ≠ c) : crcN (bs.set i d) ≠ crcN bs := by
  intro e
  have e2 : crcS (bs.set i d) = crcS bs := by
    have := congrArg (4294967295 ^^^ ·) e
    unfold crcN at this
    simpa [← Nat.xor_assoc] using this
  obtain ⟨hlt, hc⟩ := List.getElem?_eq_some_iff.1 h
  have s1 : bs = bs.take i ++ (c :: bs.drop (i + 1)) := by
    rw [← hc, ← List.drop_eq_getElem_cons hlt, List.take_append_drop]
  have s2 : bs.set i d = bs.take i ++ (d :: bs.drop (i + 1)) := List.set_eq_take_append_cons_drop.trans (by rw [if_pos hlt])
  rw [s2] at e2
  conv at e2 => rhs; rw [s1]
  unfold crcS at e2
  rw [List.foldl_append, List.foldl_append, List.foldl_cons, List.foldl_cons] at e2
  have hx := foldl_lt (bs.take i) (x := 4294967295) (by decide)
  exact hne (cb_injC hx (foldl_inj _ (cb_lt hx d) (cb_lt hx c) e2))

theorem step_xor (x : Nat) (c : UInt8) (hx : x < 2 ^ 32) : xorK .u32 (x : Int) (c.toNat : Int) = ((x ^^^ c.toNat : Nat) : Int) := xorK_nat _ _ _ (by simpa [IntKind.bits] using hx) (by have := c.toNat_lt; simp only [IntKind.bits]; omega) rfl
theorem step_shr (x : Nat) : shrK .u32 (x : Int) 1 = ((x / 2 : Nat) : Int) := shrK_nat _ _ _ (by decide)
theorem step_and (x : Nat) (hx : x < 2 ^ 32) : andK .u32 (x : Int) 1 = ((x % 2 : Nat) : Int) := by
  have := andK_nat .u32 x 1 (by simpa [IntKind.bits] using hx) (by decide) rfl
  rw [Nat.and_one_is_mod] at this
  exact this
theorem step_poly (x : Nat) (hx : x < 2 ^ 32) : xorK .u32 (x : Int) 2197175160 = ((x ^^^ poly : Nat) : Int) := xorK_nat .u32 x poly (by simpa [IntKind.bits] using hx) (by decide) rfl
theorem step_one (x : Nat) (hx : x < 2 ^ 32) : xorK .u32 ((x / 2 : Nat) : Int) (andK .u32 (IntKind.wrap .u32 (0 - ((x % 2 : Nat) : Int))) 2197175160) = ((cs x : Nat) : Int) := by
  unfold cs
  by_cases h : x % 2 = 1
  · rw [if_pos h, h]
    have e1 : andK .u32 (IntKind.wrap .u32 (0 - ((1 : Nat) : Int))) 2197175160 = 2197175160 := by decide +kernel
    rw [e1]; exact step_poly _ (by omega)
  · rw [if_neg h, show x % 2 = 0 by omega]
    have e1 : andK .u32 (IntKind.wrap .u32 (0 - ((0 : Nat) : Int))) 2197175160 = 0 := by decide +kernel
    rw [e1]
    have := xorK_nat .u32 (x / 2) 0 (by simp only [IntKind.bits]; omega) (by decide) rfl
    simpa using this
theorem step_not (x : Nat) (hx : x < 2 ^ 32) : xorK .u32 (if IntKind.u32.signed = true then -1 else IntKind.u32.max) (x : Int) = ((4294967295 ^^^ x : Nat) : Int) := xorK_nat .u32 4294967295 x (by decide) (by simpa [IntKind.bits] using hx) rfl
def sumInv (H : Heap) (a : Option Addr) (n c : Nat) (bs : List UInt8) (st : St) : Prop :=
  ∃ k : Nat, k ≤ n ∧ st.env 6 = .slice a n c ∧ st.env 7 = .int .i64 n ∧ st.env 8 = .int .i64 k ∧ st.env 3 = .int .u32 (crcS (bs.take k) : Nat) ∧ st.heap = H
def sum8Inv (H : Heap) (a : Option Addr) (n c k x : Nat) (st : St) : Prop :=
  ∃ m : Nat, m ≤ 8 ∧ st.env 6 = .slice a n c ∧ st.env 7 = .int .i64 n ∧ st.env 8 = .int .i64 k ∧ st.env 16 = .int .i64 m ∧ st.env 3 = .int .u32 (csN m x : Nat) ∧ st.heap = H
theorem sum_c (a : Option Addr) (n c : Nat) (bs : List UInt8) (H : Heap) (h : SlA H a n 1 (bs.map u8V)) (hn : n ≤ 140737488351232) :
    ECalls Try.prog 40 #[.slice a n c] H fun r H' => r = .int .u32 (crcN bs : Nat) ∧ H' = H := by
  refine ecalls_of_ewp (args := [_]) Try.func40 rfl rfl rfl (by simp [Try.ntmps40]) (by kernel_rfl) ?_
  have hl : bs.length = n := by simpa using h.len
  simp (disch := first | omega | assumption | decide | (simp <;> omega) | fail) [facts, ]
  refine w_loop (sumInv H a n c bs) (fun s => n - (intOf (s.env 8)).toNat) ?_ ?_
  · exact ⟨0, Nat.zero_le _, by simp, by simp, by simp, by simp [crcS], rfl⟩
  rintro ⟨env, G⟩ ⟨k, hk, e6, e7, e8, e3, hG⟩
  simp only at e6 e7 e8 e3 hG
  subst hG
  by_cases hlt : k < n
  · have hltI : (k : Int) < (n : Int) := by omega
    obtain ⟨x, hx⟩ : ∃ x, bs[k]? = some x := ⟨_, List.getElem?_eq_getElem (by omega)⟩
    obtain ⟨ab, ao, rfl⟩ := h.lit (by omega)
    have gx : rd1U (G ab) (ao + k) = some (.int .u8 x.toNat) := h.at hx
    have hs := crcS_lt (bs.take k)
    have hst := crcS_take hx
    obtain ⟨S, hS⟩ : ∃ S, S = crcS (bs.take k) := ⟨_, rfl⟩
    rw [← hS] at e3 hs hst
    have hxb := x.toNat_lt
    have hxor := step_xor S x hs
    have hxl : S ^^^ x.toNat < 2 ^ 32 := Nat.xor_lt_two_pow hs (by omega)
    simp (disch := first | omega | assumption | decide | (simp <;> omega) | fail) [facts, e6, e7, e8, e3, hltI, gx, hxor]
    refine w_loop (sum8Inv G (some ⟨ab, ao, none⟩) n c k (S ^^^ x.toNat)) (fun s => 8 - (intOf (s.env 16)).toNat) ?_ ?_
    · exact ⟨0, by decide, by simp [e6], by simp [e7], by simp [e8], by simp, by simp [csN], rfl⟩
    clear e6 e7 e8 e3
    rintro ⟨env2, G2⟩ ⟨m, hm, e6, e7, e8, e16, e3, hG2⟩
    simp only at e6 e7 e8 e16 e3 hG2
    subst hG2
    by_cases hm8 : m < 8
    · have hm8I : (m : Int) < 8 := by omega
      have hy := csN_lt m hxl
      have hsucc := csN_succ m (S ^^^ x.toNat)
      obtain ⟨y, hyy⟩ : ∃ y, y = csN m (S ^^^ x.toNat) := ⟨_, rfl⟩
      rw [← hyy] at e3 hy hsucc
      have t1 := step_shr y
      have t2 := step_and y hy
      have t3 := step_one y hy
      simp (disch := first | omega | assumption | decide | (simp <;> omega) | fail) [facts, e6, e7, e8, e16, e3, hm8I, t1, t2]
      refine ⟨_, Heap.le_refl _, ⟨m + 1, by omega, by simp [e6], by simp [e7], by simp [e8], by simp, by rw [hsucc, ← t3]; simp, rfl⟩, by simp [intOf, e16]; omega⟩
    · have hm88 : m = 8 := by omega
      subst hm88
      simp (disch := first | omega | assumption | decide | (simp <;> omega) | fail) [facts, e6, e7, e8, e16, e3]
      refine ⟨_, Heap.le_refl _, ⟨k + 1, by omega, by simp [e6], by simp [e7], by simp, ?_, rfl⟩, by simp [intOf]; omega⟩
      simp [e3]
      rw [hst]; rfl
  · have hkn : k = n := by omega
    subst hkn
    rw [List.take_of_length_le (by omega)] at e3
    have hnot := step_not _ (crcS_lt bs)
    simp (disch := first | omega | assumption | decide | (simp <;> omega) | fail) [facts, e6, e7, e8, e3, hnot]
    try rfl
def crcInv (H : Heap) (a : Option Addr) (n c : Nat) (bs : List UInt8) (st : St) : Prop :=
  ∃ k : Nat, k ≤ n ∧ st.env 0 = .slice a n c ∧ st.env 4 = .int .i64 k ∧ st.env 3 = .int .u32 (crcS (bs.take k) : Nat) ∧ st.heap = H
def crc8Inv (H : Heap) (a : Option Addr) (n c k x : Nat) (st : St) : Prop :=
  ∃ m : Nat, m ≤ 8 ∧ st.env 0 = .slice a n c ∧ st.env 4 = .int .i64 k ∧ st.env 5 = .int .i64 m ∧ st.env 3 = .int .u32 (csN m x : Nat) ∧ st.heap = H
theorem crc_c (a : Option Addr) (n c : Nat) (bs : List UInt8) (H : Heap) (h : SlA H a n 1 (bs.map u8V)) (hn : n ≤ 140737488351232) :
    ECalls Try.prog 43 #[.slice a n c] H fun r H' => r = .int .u32 (crcN bs : Nat) ∧ H' = H := by
  refine ecalls_of_ewp (args := [_]) Try.func43 rfl rfl rfl (by simp [Try.ntmps43]) (by kernel_rfl) ?_
  have hl : bs.length = n := by simpa using h.len
  simp (disch := first | omega | assumption | decide | (simp <;> omega) | fail) [facts, ]
  refine w_loop (crcInv H a n c bs) (fun s => n - (intOf (s.env 4)).toNat) ?_ ?_
  · exact ⟨0, Nat.zero_le _, by simp, by simp, by simp [crcS], rfl⟩
  rintro ⟨env, G⟩ ⟨k, hk, e0, e4, e3, hG⟩
  simp only at e0 e4 e3 hG
  subst hG
  by_cases hlt : k < n
  · have hltI : (k : Int) < (n : Int) := by omega
    obtain ⟨x, hx⟩ : ∃ x, bs[k]? = some x := ⟨_, List.getElem?_eq_getElem (by omega)⟩
    obtain ⟨ab, ao, rfl⟩ := h.lit (by omega)
    have gx : rd1U (G ab) (ao + k) = some (.int .u8 x.toNat) := h.at hx
    have hs := crcS_lt (bs.take k)
    have hst := crcS_take hx
    obtain ⟨S, hS⟩ : ∃ S, S = crcS (bs.take k) := ⟨_, rfl⟩
    rw [← hS] at e3 hs hst
    have hxb := x.toNat_lt
    have hxor := step_xor S x hs
    have hxl : S ^^^ x.toNat < 2 ^ 32 := Nat.xor_lt_two_pow hs (by omega)
    simp (disch := first | omega | assumption | decide | (simp <;> omega) | fail) [facts, e0, e4, e3, hltI, gx, hxor]
    refine w_loop (crc8Inv G (some ⟨ab, ao, none⟩) n c k (S ^^^ x.toNat)) (fun s => 8 - (intOf (s.env 5)).toNat) ?_ ?_
    · exact ⟨0, by decide, by simp [e0], by simp [e4], by simp, by simp [csN], rfl⟩
    clear e0 e4 e3
    rintro ⟨env2, G2⟩ ⟨m, hm, e0, e4, e5, e3, hG2⟩
    simp only at e0 e4 e5 e3 hG2
    subst hG2
    by_cases hm8 : m < 8
    · have hm8I : (m : Int) < 8 := by omega
      have hy := csN_lt m hxl
      have hsucc := csN_succ m (S ^^^ x.toNat)
      obtain ⟨y, hyy⟩ : ∃ y, y = csN m (S ^^^ x.toNat) := ⟨_, rfl⟩
      rw [← hyy] at e3 hy hsucc
      have t1 := step_shr y
      have t2 := step_and y hy
      by_cases h1 : y % 2 = 1
      · have t3 := step_poly (y / 2) (by omega)
        rw [h1] at t2
        obtain ⟨z, hz⟩ : ∃ z, z = y / 2 := ⟨_, rfl⟩
        rw [← hz] at t1 t3
        have hcs : cs y = z ^^^ poly := by unfold cs; rw [if_pos h1, hz]
        rw [hcs] at hsucc
        simp (disch := first | omega | assumption | decide | (simp <;> omega) | fail) [facts, e0, e4, e5, e3, hm8I, t1, t2, t3]
        refine ⟨_, Heap.le_refl _, ⟨m + 1, by omega, by simp [e0], by simp [e4], by simp, by rw [hsucc]; simp, rfl⟩, by simp [intOf, e5]; omega⟩
      · rw [show y % 2 = 0 by omega] at t2
        obtain ⟨z, hz⟩ : ∃ z, z = y / 2 := ⟨_, rfl⟩
        rw [← hz] at t1
        have hcs : cs y = z := by unfold cs; rw [if_neg h1, hz]
        rw [hcs] at hsucc
        simp (disch := first | omega | assumption | decide | (simp <;> omega) | fail) [facts, e0, e4, e5, e3, hm8I, t1, t2]
        refine ⟨_, Heap.le_refl _, ⟨m + 1, by omega, by simp [e0], by simp [e4], by simp, by rw [hsucc]; simp, rfl⟩, by simp [intOf, e5]; omega⟩
    · have hm88 : m = 8 := by omega
      subst hm88
      simp (disch := first | omega | assumption | decide | (simp <;> omega) | fail) [facts, e0, e4, e5, e3]
      refine ⟨_, Heap.le_refl _, ⟨k + 1, by omega, by simp [e0], by simp, ?_, rfl⟩, by simp [intOf]; omega⟩
      simp [e3]
      rw [hst]; rfl
  · have hkn : k = n := by omega
    subst hkn
    rw [List.take_of_length_le (by omega)] at e3
    have hnot := step_not _ (crcS_lt bs)
    simp (disch := first | omega | assumption | decide | (simp <;> omega) | fail) [facts, e0, e4, e3, hnot]
    try rfl
end Go.Proofs.Ytnmbmccigpljnaa.GL

namespace Go.Proofs.Ytnmbmccigpljnaa.GL
open Go Go.RowKit
set_option maxRecDepth 10000
set_option pp.deepTerms.threshold 8
set_option pp.maxSteps 3000
set_option linter.unusedSimpArgs false
set_option linter.unusedVariables false

structure NZ where
  a : Int
  b : Int
  c : Int
  d : Int
  deriving DecidableEq
def NZ.l (x : NZ) : List Int := [x.a, x.b, x.c, x.d]
def NZ.cells (x : NZ) : List Value := [.int .i64 x.a, .int .i64 x.b, .int .i64 x.c, .int .i64 x.d]
theorem n4 (x : NZ) : x.cells.length = 4 := rfl
def inC (z : Int) : Bool := decide (0 ≤ z) && decide (z ≤ 10000)
def NZ.ok (x : NZ) : Bool := x.l.all inC
structure RZ where
  kind : Int
  t : Int
  s : Int
  pan : ByteArray
  am : Int
  ns : NZ
  rs : NZ
  ls : NZ
  deriving DecidableEq
def isD (c : UInt8) : Bool := decide (48 ≤ c.toNat) && decide (c.toNat ≤ 57)
def allD (s : ByteArray) : Bool := s.data.toList.all isD
def RZ.right (r : RZ) : Bool := decide (1 ≤ r.kind) && decide (r.kind < 10) && decide (r.pan.size ≤ 19) && allD r.pan && decide (0 ≤ r.am) && decide (r.am ≤ 1000000) && r.ns.ok && r.rs.ok && r.ls.ok
theorem all_step {α : Type} {p : α → Bool} {l : List α} {k : Nat} {x : α} (hx : l[k]? = some x) (h : (l.take k).all p = true) (hp : p x = true) : (l.take (k + 1)).all p = true := by
  rw [List.take_add_one, hx, List.all_append, h]; simp [hp]
theorem all_false {α : Type} {p : α → Bool} {l : List α} {k : Nat} {x : α} (hx : l[k]? = some x) (hp : p x = false) : l.all p = false := by
  cases h : l.all p with
  | false => rfl
  | true => rw [List.all_eq_true.1 h x (List.mem_of_getElem? hx)] at hp; cases hp
def digInv (H : Heap) (s : ByteArray) (st : St) : Prop :=
  ∃ k : Nat, k ≤ s.size ∧ st.env 0 = .string s ∧ st.env 5 = .int .i64 s.size ∧ st.env 6 = .int .i64 k ∧ st.heap = H ∧ (s.data.toList.take k).all isD = true
theorem digits_c (s : ByteArray) (H : Heap) (hn : s.size ≤ 140737488351232) : ECalls Try.prog 57 #[.string s] H fun r H' => r = .bool (allD s) ∧ H' = H := by
  refine ecalls_of_ewp (args := [_]) Try.func57 rfl rfl rfl (by simp [Try.ntmps57]) (by kernel_rfl) ?_
  have hsz : s.size = s.data.size := rfl
  simp (disch := first | omega | assumption | decide | (simp <;> omega) | fail) [facts, ]
  refine w_loop (digInv H s) (fun st => s.size - (intOf (st.env 6)).toNat) ?_ ?_
  · exact ⟨0, Nat.zero_le _, by simp, by simp, by simp, rfl, by simp⟩
  rintro ⟨env, G⟩ ⟨k, hk, e0, e5, e6, hG, hall⟩
  simp only at e0 e5 e6 hG
  subst hG
  by_cases hlt : k < s.size
  · have hltI : (k : Int) < (s.size : Int) := by omega
    obtain ⟨x, hx⟩ : ∃ x, s.data.toList[k]? = some x := ⟨_, List.getElem?_eq_getElem (by simpa using hlt)⟩
    have hx2 : s.data[k]? = some x := by rw [← Array.getElem?_toList]; exact hx
    have hx3 : s.data[k] = x := (Array.getElem?_eq_some_iff.1 hx2).2
    by_cases h1 : x.toNat < 48
    · have h1I : (x.toNat : Int) < 48 := by omega
      have hno : allD s = false := all_false hx (by unfold isD; simp; omega)
      simp (disch := first | omega | assumption | decide | (simp <;> omega) | fail) [facts, e0, e5, e6, hltI, hx2, hx3, h1I, hno]
    · have h1I : ¬ (x.toNat : Int) < 48 := by omega
      by_cases h2 : 57 < x.toNat
      · have h2I : (57 : Int) < (x.toNat : Int) := by omega
        have hno : allD s = false := all_false hx (by unfold isD; simp; omega)
        simp (disch := first | omega | assumption | decide | (simp <;> omega) | fail) [facts, e0, e5, e6, hltI, hx2, hx3, h1I, h2I, hno]
      · have h2I : ¬ (57 : Int) < (x.toNat : Int) := by omega
        simp (disch := first | omega | assumption | decide | (simp <;> omega) | fail) [facts, e0, e5, e6, hltI, hx2, hx3, h1I, h2I]
        exact ⟨_, Heap.le_refl _, ⟨k + 1, by omega, by simp [e0], by simp [e5], by simp, rfl, all_step hx hall (by unfold isD; simp; omega)⟩, by simp [intOf, e6]; omega⟩
  · have hkn : k = s.size := by omega
    have hall' : allD s = true := by
      unfold allD
      rw [List.take_of_length_le (by simp; omega)] at hall; exact hall
    simp (disch := first | omega | assumption | decide | (simp <;> omega) | fail) [facts, e0, e5, e6, hkn, hall']
def digRInv (H : Heap) (s : ByteArray) (st : St) : Prop :=
  ∃ k : Nat, k ≤ s.size ∧ st.env 0 = .string s ∧ st.env 3 = .int .i64 k ∧ st.heap = H ∧ (s.data.toList.take k).all isD = true
theorem digitsR_c (s : ByteArray) (H : Heap) (hn : s.size ≤ 140737488351232) : ECalls Try.prog 35 #[.string s] H fun r H' => r = .bool (allD s) ∧ H' = H := by
  refine ecalls_of_ewp (args := [_]) Try.func35 rfl rfl rfl (by simp [Try.ntmps35]) (by kernel_rfl) ?_
  have hsz : s.size = s.data.size := rfl
  simp (disch := first | omega | assumption | decide | (simp <;> omega) | fail) [facts, ]
  refine w_loop (digRInv H s) (fun st => s.size - (intOf (st.env 3)).toNat) ?_ ?_
  · exact ⟨0, Nat.zero_le _, by simp, by simp, rfl, by simp⟩
  rintro ⟨env, G⟩ ⟨k, hk, e0, e3, hG, hall⟩
  simp only at e0 e3 hG
  subst hG
  by_cases hlt : k < s.size
  · have hltI : (k : Int) < (s.size : Int) := by omega
    obtain ⟨x, hx⟩ : ∃ x, s.data.toList[k]? = some x := ⟨_, List.getElem?_eq_getElem (by simpa using hlt)⟩
    have hx2 : s.data[k]? = some x := by rw [← Array.getElem?_toList]; exact hx
    have hx3 : s.data[k] = x := (Array.getElem?_eq_some_iff.1 hx2).2
    by_cases h1 : x.toNat < 48
    · have h1I : (x.toNat : Int) < 48 := by omega
      have hno : allD s = false := all_false hx (by unfold isD; simp; omega)
      simp (disch := first | omega | assumption | decide | (simp <;> omega) | fail) [facts, e0, e3, hltI, hx2, hx3, h1I, hno]
    · have h1I : ¬ (x.toNat : Int) < 48 := by omega
      by_cases h2 : 57 < x.toNat
      · have h2I : (57 : Int) < (x.toNat : Int) := by omega
        have hno : allD s = false := all_false hx (by unfold isD; simp; omega)
        simp (disch := first | omega | assumption | decide | (simp <;> omega) | fail) [facts, e0, e3, hltI, hx2, hx3, h1I, h2I, hno]
      · have h2I : ¬ (57 : Int) < (x.toNat : Int) := by omega
        simp (disch := first | omega | assumption | decide | (simp <;> omega) | fail) [facts, e0, e3, hltI, hx2, hx3, h1I, h2I]
        exact ⟨_, Heap.le_refl _, ⟨k + 1, by omega, by simp [e0], by simp, rfl, all_step hx hall (by unfold isD; simp; omega)⟩, by simp [intOf, e3]; omega⟩
  · have hkn : k = s.size := by omega
    have hall' : allD s = true := by
      unfold allD
      rw [List.take_of_length_le (by simp; omega)] at hall; exact hall
    simp (disch := first | omega | assumption | decide | (simp <;> omega) | fail) [facts, e0, e3, hkn, hall']
theorem NZ.at (x : NZ) {m : Nat} {z : Int} (h : x.l[m]? = some z) : [Value.int .i64 x.a, .int .i64 x.b, .int .i64 x.c, .int .i64 x.d][m]? = some (.int .i64 z) := by
  have : [Value.int .i64 x.a, .int .i64 x.b, .int .i64 x.c, .int .i64 x.d] = x.l.map (.int .i64) := rfl
  rw [this, List.getElem?_map, h]; rfl
def fewInv (H : Heap) (b : Nat) (x : NZ) (st : St) : Prop :=
  ∃ m : Nat, m ≤ 4 ∧ st.env 1 = .pointer (some ⟨b, 0, none⟩) ∧ st.env 3 = .int .i64 m ∧ st.heap = H ∧ (x.l.take m).all inC = true
theorem few_c (x : NZ) (H : Heap) : ECalls Try.prog 36 #[.agg #[.int .i64 x.a, .int .i64 x.b, .int .i64 x.c, .int .i64 x.d]] H fun r H' => r = .bool x.ok ∧ Heap.le H H' := by
  refine ecalls_of_ewp (args := [_]) Try.func36 rfl rfl rfl (by simp [Try.ntmps36]) (by kernel_rfl) ?_
  simp (disch := first | omega | assumption | decide | (simp <;> omega) | fail) [facts, ]
  refine fresh_intro fun b hb => ?_
  have hle := le_upd (.row true 0 [.int .i64 x.a, .int .i64 x.b, .int .i64 x.c, .int .i64 x.d] 0) hb
  have hrow := upd_same H b (.row true 0 [.int .i64 x.a, .int .i64 x.b, .int .i64 x.c, .int .i64 x.d] 0)
  generalize upd H b (.row true 0 [.int .i64 x.a, .int .i64 x.b, .int .i64 x.c, .int .i64 x.d] 0) = H1 at *
  simp (disch := first | omega | assumption | decide | (simp <;> omega) | fail) [facts, ]
  refine w_loop (fewInv H1 b x) (fun st => 4 - (intOf (st.env 3)).toNat) ?_ ?_
  · exact ⟨0, by decide, by simp, by simp, rfl, by simp⟩
  rintro ⟨env, G⟩ ⟨m, hm, e1, e3, hG, hall⟩
  simp only at e1 e3 hG
  subst hG
  by_cases hlt : m < 4
  · have hltI : (m : Int) < 4 := by omega
    obtain ⟨z, hz⟩ : ∃ z, x.l[m]? = some z := ⟨_, List.getElem?_eq_getElem (by simpa [NZ.l] using hlt)⟩
    have rz : rd1U (G b) m = some (.int .i64 z) := by
      rw [hrow, rd1U_row (Nat.zero_le _), Nat.sub_zero]; exact x.at hz
    by_cases h1 : z < 0
    · have hno : x.ok = false := all_false hz (by unfold inC; simp; omega)
      simp (disch := first | omega | assumption | decide | (simp <;> omega) | fail) [facts, e1, e3, hltI, rz, h1, hno]
      exact ⟨_, Heap.le_refl _, hle⟩
    · by_cases h2 : 10000 < z
      · have hno : x.ok = false := all_false hz (by unfold inC; simp; omega)
        simp (disch := first | omega | assumption | decide | (simp <;> omega) | fail) [facts, e1, e3, hltI, rz, h1, h2, hno]
        exact ⟨_, Heap.le_refl _, hle⟩
      · simp (disch := first | omega | assumption | decide | (simp <;> omega) | fail) [facts, e1, e3, hltI, rz, h1, h2]
        exact ⟨_, Heap.le_refl _, ⟨m + 1, by omega, by simp [e1], by simp, rfl, all_step hz hall (by unfold inC; simp; omega)⟩, by simp [intOf, e3]; omega⟩
  · have hm4 : m = 4 := by omega
    subst hm4
    have hok : x.ok = true := by unfold NZ.ok; exact hall
    simp (disch := first | omega | assumption | decide | (simp <;> omega) | fail) [facts, e1, e3, hok]
    exact ⟨_, Heap.le_refl _, hle⟩
end Go.Proofs.Ytnmbmccigpljnaa.GL

namespace Go.Proofs.Ytnmbmccigpljnaa.GL
open Go Go.RowKit
set_option maxRecDepth 10000
set_option pp.deepTerms.threshold 8
set_option pp.maxSteps 3000
set_option linter.unusedSimpArgs false
set_option linter.unusedVariables false

def cnInv (H : Heap) (a : Option Addr) (n c : Nat) (xs : List NZ) (st : St) : Prop :=
  ∃ k : Nat, k ≤ n ∧ st.env 7 = .slice a n c ∧ st.env 8 = .int .i64 n ∧ st.env 9 = .int .i64 k ∧ Heap.le H st.heap ∧ (xs.take k).all NZ.ok = true
def cn4Inv (H : Heap) (a : Option Addr) (n c k : Nat) (x : NZ) (st : St) : Prop :=
  ∃ m : Nat, m ≤ 4 ∧ st.env 7 = .slice a n c ∧ st.env 8 = .int .i64 n ∧ st.env 9 = .int .i64 k ∧ st.env 13 = .agg #[.int .i64 x.a, .int .i64 x.b, .int .i64 x.c, .int .i64 x.d] ∧ st.env 14 = .int .i64 m ∧ Heap.le H st.heap ∧ (x.l.take m).all inC = true
theorem counts_c (a : Option Addr) (n c : Nat) (xs : List NZ) (H : Heap) (h : SlA H a n 4 (rowsC NZ.cells xs)) (hn : n ≤ 100000) : ECalls Try.prog 58 #[.slice a n c] H fun r H' => r = .bool (xs.all NZ.ok) ∧ Heap.le H H' := by
  refine ecalls_of_ewp (args := [_]) Try.func58 rfl rfl rfl (by simp [Try.ntmps58]) (by kernel_rfl) ?_
  have hl : xs.length = n := h.els n4 (by decide)
  simp (disch := first | omega | assumption | decide | (simp <;> omega) | fail) [facts, ]
  refine w_loop (cnInv H a n c xs) (fun st => n - (intOf (st.env 9)).toNat) ?_ ?_
  · exact ⟨0, Nat.zero_le _, by simp, by simp, by simp, Heap.le_refl _, by simp⟩
  rintro ⟨env, G⟩ ⟨k, hk, e7, e8, e9, hle, hall⟩
  simp only at e7 e8 e9 hle
  by_cases hlt : k < n
  · have hltI : (k : Int) < (n : Int) := by omega
    obtain ⟨x, hx⟩ : ∃ x, xs[k]? = some x := ⟨_, List.getElem?_eq_getElem (by omega)⟩
    obtain ⟨ab, ao, rfl⟩ := h.lit (by omega)
    have rx : rdNU (G ab) (ao + k * 4) 4 = some [.int .i64 x.a, .int .i64 x.b, .int .i64 x.c, .int .i64 x.d] := (h.le hle).el n4 hx (j := 0) (r := 4) (by decide) (by decide)
    simp (disch := first | omega | assumption | decide | (simp <;> omega) | fail) [facts, e7, e8, e9, hltI, rx]
    refine fresh_intro fun b hb => ?_
    have hle2 := Heap.le_trans hle (le_upd (.row true 0 [.int .i64 x.a, .int .i64 x.b, .int .i64 x.c, .int .i64 x.d] 0) hb)
    simp (disch := first | omega | assumption | decide | (simp <;> omega) | fail) [facts, upd_upd, upd_same]
    refine w_loop (cn4Inv H (some ⟨ab, ao, none⟩) n c k x) (fun st => 4 - (intOf (st.env 14)).toNat) ?_ ?_
    · exact ⟨0, by decide, by simp [e7], by simp [e8], by simp [e9], by simp, by simp, hle2, by simp⟩
    clear e7 e8 e9 hle2
    rintro ⟨env2, G2⟩ ⟨m, hm, e7, e8, e9, e13, e14, hle2, hall2⟩
    simp only at e7 e8 e9 e13 e14 hle2
    by_cases hm4 : m < 4
    · have hm4I : (m : Int) < 4 := by omega
      obtain ⟨z, hz⟩ : ∃ z, x.l[m]? = some z := ⟨_, List.getElem?_eq_getElem (by simpa [NZ.l] using hm4)⟩
      have rz := x.at hz
      obtain ⟨hmm, rz2⟩ := List.getElem?_eq_some_iff.1 rz
      by_cases h1 : z < 0
      · have hno : xs.all NZ.ok = false := all_false hx (all_false hz (by unfold inC; simp; omega))
        simp (disch := first | omega | assumption | decide | (simp <;> omega) | fail) [facts, e7, e8, e9, e13, e14, hm4I, rz, rz2, h1, hno]
        exact ⟨_, Heap.le_refl _, hle2⟩
      · by_cases h2 : 10000 < z
        · have hno : xs.all NZ.ok = false := all_false hx (all_false hz (by unfold inC; simp; omega))
          simp (disch := first | omega | assumption | decide | (simp <;> omega) | fail) [facts, e7, e8, e9, e13, e14, hm4I, rz, rz2, h1, h2, hno]
          exact ⟨_, Heap.le_refl _, hle2⟩
        · simp (disch := first | omega | assumption | decide | (simp <;> omega) | fail) [facts, e7, e8, e9, e13, e14, hm4I, rz, rz2, h1, h2]
          exact ⟨_, Heap.le_refl _, ⟨m + 1, by omega, by simp [e7], by simp [e8], by simp [e9], by simp [e13], by simp, hle2, all_step hz hall2 (by unfold inC; simp; omega)⟩, by simp [intOf, e14]; omega⟩
    · have hm44 : m = 4 := by omega
      subst hm44
      simp (disch := first | omega | assumption | decide | (simp <;> omega) | fail) [facts, e7, e8, e9, e13, e14]
      exact ⟨_, Heap.le_refl _, ⟨k + 1, by omega, by simp [e7], by simp [e8], by simp, hle2, all_step hx hall hall2⟩, by simp [intOf, e9]; omega⟩
  · have hkn : k = n := by omega
    subst hkn
    rw [List.take_of_length_le (by omega)] at hall
    simp (disch := first | omega | assumption | decide | (simp <;> omega) | fail) [facts, e7, e8, e9, hall]
    exact ⟨_, Heap.le_refl _, hle⟩
theorem notes3 (x y z : NZ) : splice (splice (splice (zeros [.int .i64 0, .int .i64 0, .int .i64 0, .int .i64 0] 3) 0 [.int .i64 x.a, .int .i64 x.b, .int .i64 x.c, .int .i64 x.d]) 4 [.int .i64 y.a, .int .i64 y.b, .int .i64 y.c, .int .i64 y.d]) 8 [.int .i64 z.a, .int .i64 z.b, .int .i64 z.c, .int .i64 z.d] = rowsC NZ.cells [x, y, z] := rfl
theorem right_c (r : RZ) (H : Heap) (hp : r.pan.size ≤ 140737488351232) : ECalls Try.prog 52 #[.agg #[.int .i64 r.kind, .int .u16 r.t, .int .u32 r.s, .string r.pan, .int .i64 r.am, .int .i64 r.ns.a, .int .i64 r.ns.b, .int .i64 r.ns.c, .int .i64 r.ns.d, .int .i64 r.rs.a, .int .i64 r.rs.b, .int .i64 r.rs.c, .int .i64 r.rs.d, .int .i64 r.ls.a, .int .i64 r.ls.b, .int .i64 r.ls.c, .int .i64 r.ls.d]] H fun v H' => v = .bool r.right ∧ Heap.le H H' := by
  refine ecalls_of_ewp (args := [_]) Try.func52 rfl rfl rfl (by simp [Try.ntmps52]) (by kernel_rfl) ?_
  simp (disch := first | omega | assumption | decide | (simp <;> omega) | fail) [facts, ]
  refine fresh_intro fun b hb => ?_
  have hle := le_upd (.row true 0 [.int .i64 r.kind, .int .u16 r.t, .int .u32 r.s, .string r.pan, .int .i64 r.am, .int .i64 r.ns.a, .int .i64 r.ns.b, .int .i64 r.ns.c, .int .i64 r.ns.d, .int .i64 r.rs.a, .int .i64 r.rs.b, .int .i64 r.rs.c, .int .i64 r.rs.d, .int .i64 r.ls.a, .int .i64 r.ls.b, .int .i64 r.ls.c, .int .i64 r.ls.d] 0) hb
  have hrow := upd_same H b (.row true 0 [.int .i64 r.kind, .int .u16 r.t, .int .u32 r.s, .string r.pan, .int .i64 r.am, .int .i64 r.ns.a, .int .i64 r.ns.b, .int .i64 r.ns.c, .int .i64 r.ns.d, .int .i64 r.rs.a, .int .i64 r.rs.b, .int .i64 r.rs.c, .int .i64 r.rs.d, .int .i64 r.ls.a, .int .i64 r.ls.b, .int .i64 r.ls.c, .int .i64 r.ls.d] 0)
  generalize upd H b (.row true 0 [.int .i64 r.kind, .int .u16 r.t, .int .u32 r.s, .string r.pan, .int .i64 r.am, .int .i64 r.ns.a, .int .i64 r.ns.b, .int .i64 r.ns.c, .int .i64 r.ns.d, .int .i64 r.rs.a, .int .i64 r.rs.b, .int .i64 r.rs.c, .int .i64 r.rs.d, .int .i64 r.ls.a, .int .i64 r.ls.b, .int .i64 r.ls.c, .int .i64 r.ls.d] 0) = H1 at *
  by_cases h1 : 1 ≤ r.kind
  case neg =>
    have hno : r.right = false := by simp [RZ.right, h1]
    rw [hno]
    simp (disch := first | omega | assumption | decide | (simp <;> omega) | fail) [facts, hrow, h1]
    exact ⟨_, Heap.le_refl _, hle⟩
  by_cases h2 : r.kind < 10
  case neg =>
    have hno : r.right = false := by simp [RZ.right, h2]
    rw [hno]
    simp (disch := first | omega | assumption | decide | (simp <;> omega) | fail) [facts, hrow, h1, h2]
    exact ⟨_, Heap.le_refl _, hle⟩
  by_cases h3 : r.pan.size ≤ 19
  case neg =>
    have h3I : ¬ (r.pan.size : Int) ≤ 19 := by omega
    have hno : r.right = false := by simp [RZ.right, h3]
    rw [hno]
    simp (disch := first | omega | assumption | decide | (simp <;> omega) | fail) [facts, hrow, h1, h2, h3I]
    exact ⟨_, Heap.le_refl _, hle⟩
  have h3I : (r.pan.size : Int) ≤ 19 := by omega
  simp (disch := first | omega | assumption | decide | (simp <;> omega) | fail) [facts, hrow, h1, h2, h3I]
  refine (digits_c r.pan H1 hp).mono ?_
  rintro v H2 ⟨rfl, rfl⟩
  by_cases h4 : allD r.pan = true
  case neg =>
    have h4' : allD r.pan = false := by simpa using h4
    have hno : r.right = false := by simp [RZ.right, h4']
    rw [hno]
    simp (disch := first | omega | assumption | decide | (simp <;> omega) | fail) [facts, hrow, h4']
    exact ⟨_, Heap.le_refl _, hle⟩
  by_cases h5 : 0 ≤ r.am
  case neg =>
    have hno : r.right = false := by simp [RZ.right, h5]
    rw [hno]
    simp (disch := first | omega | assumption | decide | (simp <;> omega) | fail) [facts, hrow, h4, h5]
    exact ⟨_, Heap.le_refl _, hle⟩
  by_cases h6 : r.am ≤ 1000000
  case neg =>
    have hno : r.right = false := by simp [RZ.right, h6]
    rw [hno]
    simp (disch := first | omega | assumption | decide | (simp <;> omega) | fail) [facts, hrow, h4, h5, h6]
    exact ⟨_, Heap.le_refl _, hle⟩
  have hyes : r.right = (r.ns.ok && r.rs.ok && r.ls.ok) := by simp [RZ.right, h1, h2, h3, h4, h5, h6]
  rw [hyes]
  simp (disch := first | omega | assumption | decide | (simp <;> omega) | fail) [facts, hrow, h4, h5, h6]
  refine fresh_intro fun b2 hb2 => ?_
  simp (disch := first | omega | assumption | decide | (simp <;> omega) | fail) [facts, notes3 r.ns r.rs r.ls]
  have hsl : SlA (upd H2 b2 (.row true 0 (rowsC NZ.cells [r.ns, r.rs, r.ls]) 0)) (some ⟨b2, 0, none⟩) 3 4 (rowsC NZ.cells [r.ns, r.rs, r.ls]) := SlA.row (upd_same _ _ _) (Nat.le_refl _) rfl (by simp [rowsC, NZ.cells]) (by simp [rowsC, NZ.cells])
  refine (counts_c _ 3 3 [r.ns, r.rs, r.ls] _ hsl (by decide)).mono ?_
  rintro v H3 ⟨rfl, hle3⟩
  have e3 : [r.ns, r.rs, r.ls].all NZ.ok = (r.ns.ok && r.rs.ok && r.ls.ok) := by simp [Bool.and_assoc]
  rw [e3]
  simp (disch := first | omega | assumption | decide | (simp <;> omega) | fail) [facts, ]
  exact ⟨_, Heap.le_refl _, Heap.le_trans hle (Heap.le_trans (le_upd _ hb2) hle3)⟩
theorem rightR_c (r : RZ) (H : Heap) (hp : r.pan.size ≤ 140737488351232) : ECalls Try.prog 21 #[.agg #[.int .i64 r.kind, .int .u16 r.t, .int .u32 r.s, .string r.pan, .int .i64 r.am, .int .i64 r.ns.a, .int .i64 r.ns.b, .int .i64 r.ns.c, .int .i64 r.ns.d, .int .i64 r.rs.a, .int .i64 r.rs.b, .int .i64 r.rs.c, .int .i64 r.rs.d, .int .i64 r.ls.a, .int .i64 r.ls.b, .int .i64 r.ls.c, .int .i64 r.ls.d]] H fun v H' => v = .bool r.right ∧ Heap.le H H' := by
  refine ecalls_of_ewp (args := [_]) Try.func21 rfl rfl rfl (by simp [Try.ntmps21]) (by kernel_rfl) ?_
  simp (disch := first | omega | assumption | decide | (simp <;> omega) | fail) [facts, ]
  refine fresh_intro fun b hb => ?_
  have hle := le_upd (.row true 0 [.int .i64 r.kind, .int .u16 r.t, .int .u32 r.s, .string r.pan, .int .i64 r.am, .int .i64 r.ns.a, .int .i64 r.ns.b, .int .i64 r.ns.c, .int .i64 r.ns.d, .int .i64 r.rs.a, .int .i64 r.rs.b, .int .i64 r.rs.c, .int .i64 r.rs.d, .int .i64 r.ls.a, .int .i64 r.ls.b, .int .i64 r.ls.c, .int .i64 r.ls.d] 0) hb
  have hrow := upd_same H b (.row true 0 [.int .i64 r.kind, .int .u16 r.t, .int .u32 r.s, .string r.pan, .int .i64 r.am, .int .i64 r.ns.a, .int .i64 r.ns.b, .int .i64 r.ns.c, .int .i64 r.ns.d, .int .i64 r.rs.a, .int .i64 r.rs.b, .int .i64 r.rs.c, .int .i64 r.rs.d, .int .i64 r.ls.a, .int .i64 r.ls.b, .int .i64 r.ls.c, .int .i64 r.ls.d] 0)
  generalize upd H b (.row true 0 [.int .i64 r.kind, .int .u16 r.t, .int .u32 r.s, .string r.pan, .int .i64 r.am, .int .i64 r.ns.a, .int .i64 r.ns.b, .int .i64 r.ns.c, .int .i64 r.ns.d, .int .i64 r.rs.a, .int .i64 r.rs.b, .int .i64 r.rs.c, .int .i64 r.rs.d, .int .i64 r.ls.a, .int .i64 r.ls.b, .int .i64 r.ls.c, .int .i64 r.ls.d] 0) = H1 at *
  by_cases h1 : 1 ≤ r.kind
  case neg =>
    have hno : r.right = false := by simp [RZ.right, h1]
    rw [hno]
    simp (disch := first | omega | assumption | decide | (simp <;> omega) | fail) [facts, hrow, h1]
    exact ⟨_, Heap.le_refl _, hle⟩
  by_cases h2 : r.kind < 10
  case neg =>
    have hno : r.right = false := by simp [RZ.right, h2]
    rw [hno]
    simp (disch := first | omega | assumption | decide | (simp <;> omega) | fail) [facts, hrow, h1, h2]
    exact ⟨_, Heap.le_refl _, hle⟩
  by_cases h3 : r.pan.size ≤ 19
  case neg =>
    have h3I : ¬ (r.pan.size : Int) ≤ 19 := by omega
    have hno : r.right = false := by simp [RZ.right, h3]
    rw [hno]
    simp (disch := first | omega | assumption | decide | (simp <;> omega) | fail) [facts, hrow, h1, h2, h3I]
    exact ⟨_, Heap.le_refl _, hle⟩
  have h3I : (r.pan.size : Int) ≤ 19 := by omega
  simp (disch := first | omega | assumption | decide | (simp <;> omega) | fail) [facts, hrow, h1, h2, h3I]
  refine (digitsR_c r.pan H1 hp).mono ?_
  rintro v H2 ⟨rfl, rfl⟩
  by_cases h4 : allD r.pan = true
  case neg =>
    have h4' : allD r.pan = false := by simpa using h4
    have hno : r.right = false := by simp [RZ.right, h4']
    rw [hno]
    simp (disch := first | omega | assumption | decide | (simp <;> omega) | fail) [facts, hrow, h4']
    exact ⟨_, Heap.le_refl _, hle⟩
  by_cases h5 : 0 ≤ r.am
  case neg =>
    have hno : r.right = false := by simp [RZ.right, h5]
    rw [hno]
    simp (disch := first | omega | assumption | decide | (simp <;> omega) | fail) [facts, hrow, h4, h5]
    exact ⟨_, Heap.le_refl _, hle⟩
  by_cases h6 : r.am ≤ 1000000
  case neg =>
    have hno : r.right = false := by simp [RZ.right, h6]
    rw [hno]
    simp (disch := first | omega | assumption | decide | (simp <;> omega) | fail) [facts, hrow, h4, h5, h6]
    exact ⟨_, Heap.le_refl _, hle⟩
  have hyes : r.right = (r.ns.ok && r.rs.ok && r.ls.ok) := by simp [RZ.right, h1, h2, h3, h4, h5, h6]
  rw [hyes]
  simp (disch := first | omega | assumption | decide | (simp <;> omega) | fail) [facts, hrow, h4, h5, h6]
  refine (few_c r.ns H2).mono ?_
  rintro v H3 ⟨rfl, hle3⟩
  have hrow3 := hle3 _ _ hrow
  cases hn : r.ns.ok with
  | false =>
    simp (disch := first | omega | assumption | decide | (simp <;> omega) | fail) [facts, hrow3]
    exact ⟨_, Heap.le_refl _, Heap.le_trans hle hle3⟩
  | true =>
    simp (disch := first | omega | assumption | decide | (simp <;> omega) | fail) [facts, hrow3]
    refine (few_c r.rs H3).mono ?_
    rintro v H4 ⟨rfl, hle4⟩
    have hrow4 := hle4 _ _ hrow3
    cases hr : r.rs.ok with
    | false =>
      simp (disch := first | omega | assumption | decide | (simp <;> omega) | fail) [facts, hrow4]
      exact ⟨_, Heap.le_refl _, Heap.le_trans hle (Heap.le_trans hle3 hle4)⟩
    | true =>
      simp (disch := first | omega | assumption | decide | (simp <;> omega) | fail) [facts, hrow4]
      refine (few_c r.ls H4).mono ?_
      rintro v H5 ⟨rfl, hle5⟩
      simp (disch := first | omega | assumption | decide | (simp <;> omega) | fail) [facts, ]
      exact ⟨_, Heap.le_refl _, Heap.le_trans hle (Heap.le_trans hle3 (Heap.le_trans hle4 hle5))⟩
end Go.Proofs.Ytnmbmccigpljnaa.GL

namespace Go.Proofs.Ytnmbmccigpljnaa.GL
open Go Go.RowKit
set_option maxRecDepth 10000
set_option pp.deepTerms.threshold 8
set_option pp.maxSteps 3000
set_option linter.unusedSimpArgs false
set_option linter.unusedVariables false

theorem Out.own {H H' : Heap} {v : Value} {s n : Nat} {cs : List Value} (h : Out H H' v s n cs) (hle : Heap.le H H') : ∃ R, Own H (fun _ => none) H' R ∧ LstR R v s n cs := by
  rcases h with ⟨rfl, rfl, rfl⟩ | ⟨b, o, cap, room, hb, hO⟩
  · exact ⟨_, Own.nil hle, .inl ⟨rfl, rfl, rfl⟩⟩
  · refine ⟨upd (fun _ => none) b (.row true o cs room), ⟨fun i x _ hi => ⟨by rw [upd_ne _ _ (ne_of_fresh hb hi)], hle _ _ hi⟩, fun i x hi => ?_⟩, ?_⟩
    · by_cases hib : i = b
      · subst hib; rw [upd_same] at hi; cases hi; exact hO.row
      · rw [upd_ne _ _ hib] at hi; cases hi
    · exact .inr ⟨b, o, cap, [], room, hO.is, by rw [upd_same]; simp, hO.len, hO.capOk, by simpa using hO.fits⟩
/-- The first ones, with the room behind. -/
theorem LstR.cutc {B : Heap} {b o cap s n k : Nat} {cs : List Value} (h : LstR B (.slice (some ⟨b, o, none⟩) n cap) s n cs) (hk : k ≤ n) : LstR B (.slice (some ⟨b, o, none⟩) k cap) s k (cs.take (k * s)) := by
  rcases h with ⟨h, _⟩ | ⟨b', o', cap', tail, room, hv, hr, hlen, hc, hf⟩
  · cases h
  · simp only [Value.slice.injEq, Option.some.injEq, Addr.mk.injEq, true_and] at hv
    obtain ⟨⟨rfl, rfl, _⟩, rfl⟩ := hv
    have hks : k * s ≤ n * s := Nat.mul_le_mul_right _ hk
    refine .inr ⟨b, o, cap, cs.drop (k * s) ++ tail, room, rfl, by rw [← List.append_assoc, List.take_append_drop]; exact hr, by rw [List.length_take]; omega, by omega, ?_⟩
    rw [List.length_append, List.length_drop]; omega
theorem grow_c (H : Heap) (n : Nat) (hn : n ≤ 10000000) : ECalls Try.prog 53 #[.slice none 0 0, .int .i64 n] H fun v H' => ∃ R, Own H (fun _ => none) H' R ∧ LstR R v 1 0 [] := by
  refine ecalls_of_ewp (args := [_, _]) Try.func53 rfl rfl rfl (by simp [Try.ntmps53]) (by kernel_rfl) ?_
  have n0 : ¬ (n : Int) < 0 := by omega
  by_cases h0 : 0 < n
  · have h0I : (0 : Int) < (n : Int) := by omega
    simp (disch := first | omega | assumption | decide | (simp <;> omega) | fail) [facts, n0, h0I, h0]
    refine (LstR.nil (fun _ => none) 1).app (H0 := H) (B0 := fun _ => none) (e := 5) (s := 1) (nbs := 1) (z := .int .u8 0) (m := n) (ys := zeros [.int .u8 0] n) (by simp [facts]) (by simp [facts]) (by simp [facts]) (by simp [facts]) rfl (by decide) (Own.nil (Heap.le_refl H)) ?_ (by simp) (by simp [zeros, Value.oneCell']) (by omega) ?_
    · have := src_zeros (P := Try.prog) (H := H) (e := 5) (t1 := 3) (k := .i64) (k' := .i64) (l := (n : Int)) (z := .int .u8 0) (s := 1) (by simp [facts]) (by simp [facts]) (by simp [facts]) (by omega) (by omega)
      simpa using this
    · intro v' H' R' ow hl _ _
      rcases hl with ⟨_, hc, _⟩ | ⟨b, o, cap, tail, room, rfl, hr, hlen, hc, hf⟩
      · omega
      have hL : LstR R' (.slice (some ⟨b, o, none⟩) (0 + n) cap) 1 (0 + n) ([] ++ zeros [.int .u8 0] n) := .inr ⟨b, o, cap, tail, room, rfl, hr, hlen, hc, hf⟩
      simp (disch := first | omega | assumption | decide | (simp <;> omega) | fail) [facts, ]
      have := hL.cutc (k := 0) (Nat.zero_le _)
      refine ⟨_, Heap.le_refl _, R', ow, ?_⟩
      simpa using this
  · have hn0 : n = 0 := by omega
    subst hn0
    simp (disch := first | omega | assumption | decide | (simp <;> omega) | fail) [facts, ]
    exact ⟨_, Heap.le_refl _, _, Own.nil (Heap.le_refl H), LstR.nil _ _⟩
structure SZ where
  a : Option Addr
  n : Nat
  c : Nat
  bs : List UInt8
def SZ.cells (x : SZ) : List Value := [.slice x.a x.n x.c]
theorem s1 (x : SZ) : x.cells.length = 1 := rfl
def catB (xs : List SZ) : List UInt8 := (xs.map (·.bs)).flatten
theorem catB_step {xs : List SZ} {k : Nat} {x : SZ} (h : xs[k]? = some x) : catB (xs.take (k + 1)) = catB (xs.take k) ++ x.bs := by
  unfold catB; rw [List.take_add_one, h]; simp
def cc1Inv (H : Heap) (a : Option Addr) (n c : Nat) (xs : List SZ) (st : St) : Prop :=
  ∃ k : Nat, k ≤ n ∧ st.env 0 = .slice a n c ∧ st.env 9 = .slice a n c ∧ st.env 10 = .int .i64 n ∧ st.env 11 = .int .i64 k ∧ st.env 3 = .int .i64 (catB (xs.take k)).length ∧ st.heap = H
def cc2Inv (H : Heap) (a : Option Addr) (n c : Nat) (xs : List SZ) (st : St) : Prop :=
  ∃ (k : Nat) (R : Heap), k ≤ n ∧ st.env 25 = .slice a n c ∧ st.env 26 = .int .i64 n ∧ st.env 27 = .int .i64 k ∧ Own H (fun _ => none) st.heap R ∧ LstR R (st.env 6) 1 (catB (xs.take k)).length ((catB (xs.take k)).map u8V)
theorem catB_le {xs : List SZ} {n : Nat} (hb : ∀ x ∈ xs, x.bs.length ≤ 1000000) (k : Nat) : (catB (xs.take k)).length ≤ k * 1000000 := by
  induction k with
  | zero => simp [catB]
  | succ k ih =>
    cases hx : xs[k]? with
    | none =>
      have : xs.length ≤ k := by simpa using hx
      rw [List.take_of_length_le (by omega)] at ih ⊢
      exact Nat.le_trans ih (Nat.mul_le_mul_right _ (Nat.le_succ k))
    | some x =>
      rw [catB_step hx, List.length_append]
      have := hb x (List.mem_of_getElem? hx)
      rw [Nat.succ_mul]
      exact Nat.add_le_add ih this
theorem concat_c (a : Option Addr) (n c : Nat) (xs : List SZ) (H : Heap) (h : SlA H a n 1 (rowsC SZ.cells xs)) (hd : ∀ x ∈ xs, SlA H x.a x.n 1 (x.bs.map u8V) ∧ x.n ≤ 1000000) (hn : n ≤ 8) :
    ECalls Try.prog 46 #[.slice a n c] H fun v H' => ∃ R, Own H (fun _ => none) H' R ∧ LstR R v 1 (catB xs).length ((catB xs).map u8V) := by
  refine ecalls_of_ewp (args := [_]) Try.func46 rfl rfl rfl (by simp [Try.ntmps46]) (by kernel_rfl) ?_
  have hl : xs.length = n := h.els s1 (by decide)
  have hlen : ∀ x ∈ xs, x.bs.length = x.n := fun x hx => by simpa using (hd x hx).1.len
  have hcat := catB_le (xs := xs) (n := n) (fun x hx => by rw [hlen x hx]; exact (hd x hx).2)
  simp (disch := first | omega | assumption | decide | (simp <;> omega) | fail) [facts, ]
  refine w_loop (cc1Inv H a n c xs) (fun st => n - (intOf (st.env 11)).toNat) ?_ ?_
  · exact ⟨0, Nat.zero_le _, by simp, by simp, by simp, by simp, by simp [catB], rfl⟩
  rintro ⟨env, G⟩ ⟨k, hk, e0, e9, e10, e11, e3, hG⟩
  simp only at e0 e9 e10 e11 e3 hG
  subst hG
  by_cases hlt : k < n
  · have hltI : (k : Int) < (n : Int) := by omega
    obtain ⟨x, hx⟩ : ∃ x, xs[k]? = some x := ⟨_, List.getElem?_eq_getElem (by omega)⟩
    obtain ⟨ab, ao, rfl⟩ := h.lit (by omega)
    have rx : rd1U (G ab) (ao + k) = some (.slice x.a x.n x.c) := by
      have := h.el1 s1 hx (j := 0) (by decide)
      simpa [SZ.cells] using this
    have hst := catB_step hx
    have h1 := hcat k
    have h2 := hcat (k + 1)
    have hxl := hlen x (List.mem_of_getElem? hx)
    have hxn := (hd x (List.mem_of_getElem? hx)).2
    have hln : (catB (xs.take (k + 1))).length = (catB (xs.take k)).length + x.n := by rw [hst, List.length_append, hxl]
    obtain ⟨S, hS⟩ : ∃ S, S = (catB (xs.take k)).length := ⟨_, rfl⟩
    rw [← hS] at e3 h1 hln
    have hno : ¬ (S : Int) + (x.n : Int) < 0 := by omega
    simp (disch := first | omega | assumption | decide | (simp <;> omega) | fail) [facts, e0, e9, e10, e11, e3, hltI, rx, hno]
    exact ⟨_, Heap.le_refl _, ⟨k + 1, by omega, by simp [e0], by simp [e9], by simp [e10], by simp, by rw [hln]; simp, rfl⟩, by simp [intOf, e11]; omega⟩
  have hkn : k = n := by omega
  subst hkn
  rw [List.take_of_length_le (by omega)] at e3
  have hall := hcat k
  rw [List.take_of_length_le (by omega)] at hall
  simp (disch := first | omega | assumption | decide | (simp <;> omega) | fail) [facts, e0, e9, e10, e11, e3]
  refine (grow_c G (catB xs).length (by omega)).mono ?_
  rintro v G1 ⟨R1, ow1, hl1⟩
  simp (disch := first | omega | assumption | decide | (simp <;> omega) | fail) [facts, e0]
  refine w_loop (cc2Inv G a k c xs) (fun st => k - (intOf (st.env 27)).toNat) ?_ ?_
  · exact ⟨0, R1, Nat.zero_le _, by simp [e0], by simp, by simp, ow1, by simpa [catB] using hl1⟩
  clear e0 e9 e10 e11 e3 ow1 hl1
  rintro ⟨env2, G2⟩ ⟨m, R, hm, e25, e26, e27, ow, hls⟩
  simp only at e25 e26 e27 ow hls
  by_cases hlt2 : m < k
  · have hltI : (m : Int) < (k : Int) := by omega
    obtain ⟨x, hx⟩ : ∃ x, xs[m]? = some x := ⟨_, List.getElem?_eq_getElem (by omega)⟩
    obtain ⟨ab, ao, rfl⟩ := h.lit (by omega)
    have rx : rd1U (G2 ab) (ao + m) = some (.slice x.a x.n x.c) := by
      have := (h.le ow.all).el1 s1 hx (j := 0) (by decide)
      simpa [SZ.cells] using this
    have hst := catB_step hx
    have hxl := hlen x (List.mem_of_getElem? hx)
    obtain ⟨hxd, hxn⟩ := hd x (List.mem_of_getElem? hx)
    have hcm := hcat m
    generalize e6 : env2 6 = sv at hls
    simp (disch := first | omega | assumption | decide | (simp <;> omega) | fail) [facts, e25, e26, e27, e6, hltI, rx]
    refine hls.app (H0 := G) (B0 := fun _ => none) (e := 5) (s := 1) (nbs := 1) (z := .int .u8 0) (m := x.n) (ys := x.bs.map u8V) (by simp [facts]) (by simp [facts]) (by simp [facts]) (by simp [facts]) rfl (by decide) ow
      (src_sl (e1 := 5) (z := .int .u8 0) (by simp [facts]) (by simp [facts]) (by simp [facts]) (hxd.le ow.all)) (by simp [hxl]) (by simp [u8V, Value.oneCell']) (by omega) ?_
    intro v' H' R' ow' hl' _ _
    simp (disch := first | omega | assumption | decide | (simp <;> omega) | fail) [facts, e27]
    refine ⟨_, Heap.le_refl _, ⟨m + 1, R', by omega, by simp [e25], by simp [e26], by simp, ow', ?_⟩, by simp [intOf, e27]; omega⟩
    rw [hst, List.length_append, List.map_append, hxl]
    simpa using hl'
  · have hmk : m = k := by omega
    subst hmk
    rw [List.take_of_length_le (by omega)] at hls
    generalize e6 : env2 6 = sv at hls
    simp (disch := first | omega | assumption | decide | (simp <;> omega) | fail) [facts, e25, e26, e27, e6]
    exact ⟨_, Heap.le_refl _, R, ow, hls⟩
end Go.Proofs.Ytnmbmccigpljnaa.GL

namespace Go.Proofs.Ytnmbmccigpljnaa.GL
open Go Go.RowKit
set_option maxRecDepth 10000
set_option pp.deepTerms.threshold 8
set_option pp.maxSteps 3000
set_option linter.unusedSimpArgs false
set_option linter.unusedVariables false

structure RZ.wf (r : RZ) : Prop where
  t : 0 ≤ r.t ∧ r.t ≤ 65535
  s : 0 ≤ r.s ∧ r.s ≤ 4294967295
def kB (r : RZ) : UInt8 := UInt8.ofNat r.kind.toNat
def headB (r : RZ) : List UInt8 := kB r :: (bytesL r.t.toNat 2 ++ bytesL r.s.toNat 4 ++ bytesL r.am.toNat 4)
structure PC where
  b : Nat
  v1 : Value
  v2 : Value
  v3 : Value
  b4 : Nat
  v5 : Value
  v6 : Value
structure P3 (H1 : Heap) (r : RZ) (c : PC) (g : Nat → Bool) (H : Heap) : Prop where
  le : Heap.le H1 H
  k0 : g 3 = true → H c.b = some (.row true 0 [u8V (kB r)] 0)
  k1 : g 8 = true → SVa H c.v1 (bytesL r.t.toNat 2)
  k2 : g 13 = true → SVa H c.v2 (bytesL r.s.toNat 4)
  k3 : g 17 = true → SVa H c.v3 (bytesL r.am.toNat 4)
  k4 : g 18 = true → H c.b4 = some (.row true 0 [.slice (some ⟨c.b, 0, none⟩) 1 1, c.v1, c.v2, c.v3] 0)
  o18 : g 18 = true → g 3 = true ∧ g 8 = true ∧ g 13 = true ∧ g 17 = true
  o19 : g 19 = true → g 18 = true
  o20 : g 20 = true → g 19 = true
  k6 : g 20 = true → c.v6 = c.v5
  k5 : g 19 = true → ∃ R, Own H1 (fun _ => none) H R ∧ LstR R c.v5 1 (headB r).length ((headB r).map u8V)
theorem setB_ne' {g : Nat → Bool} {i j : Nat} (h : j ≠ i) (e : setB g i j = true) : g j = true := by unfold setB at e; rwa [if_neg h] at e
section
variable {H1 H H' : Heap} {r : RZ} {c : PC} {g : Nat → Bool}
theorem P3.same (h : P3 H1 r c g H) (i : Nat) (hi : i ≠ 3 ∧ i ≠ 8 ∧ i ≠ 13 ∧ i ≠ 17 ∧ i ≠ 18 ∧ i ≠ 19 ∧ i ≠ 20) : P3 H1 r c (setB g i) H := by
  obtain ⟨i1, i2, i3, i4, i5, i6, i7⟩ := hi
  refine ⟨h.le, fun e => h.k0 (setB_ne' i1.symm e), fun e => h.k1 (setB_ne' i2.symm e), fun e => h.k2 (setB_ne' i3.symm e), fun e => h.k3 (setB_ne' i4.symm e), fun e => h.k4 (setB_ne' i5.symm e), fun e => ?_, fun e => ?_, fun e => ?_, fun e => h.k6 (setB_ne' i7.symm e), fun e => h.k5 (setB_ne' i6.symm e)⟩
  · obtain ⟨a, b, c, d⟩ := h.o18 (setB_ne' i5.symm e)
    exact ⟨setB_up a, setB_up b, setB_up c, setB_up d⟩
  · exact setB_up (h.o19 (setB_ne' i6.symm e))
  · exact setB_up (h.o20 (setB_ne' i7.symm e))
theorem P3.not18 (h : P3 H1 r c g H) {i : Nat} (hi : i = 3 ∨ i = 8 ∨ i = 13 ∨ i = 17) (hg : g i = false) : g 18 = false ∧ g 19 = false := by
  have h18 : g 18 = false := by
    cases e : g 18 with
    | false => rfl
    | true =>
      obtain ⟨a, b, c, d⟩ := h.o18 e
      rcases hi with rfl | rfl | rfl | rfl <;> simp_all
  refine ⟨h18, ?_⟩
  cases e : g 19 with
  | false => rfl
  | true => rw [h.o19 e] at h18; cases h18
theorem P3.not20 (h : P3 H1 r c g H) (n19 : g 19 = false) : g 20 = false := by
  cases e : g 20 with
  | false => rfl
  | true => rw [h.o20 e] at n19; cases n19
theorem P3.build (h : P3 H1 r c g H) (hg : g 3 = false) {b : Nat} (hb : H b = none) : P3 H1 r ⟨b, c.v1, c.v2, c.v3, c.b4, c.v5, c.v6⟩ (setB g 3) (upd H b (.row true 0 [u8V (kB r)] 0)) := by
  obtain ⟨n18, n19⟩ := h.not18 (i := 3) (by simp) hg
  have hl := le_upd (.row true 0 [u8V (kB r)] 0) hb
  refine ⟨Heap.le_trans h.le hl, fun _ => upd_same _ _ _, fun e => (h.k1 (setB_ne' (by decide) e)).le hl, fun e => (h.k2 (setB_ne' (by decide) e)).le hl, fun e => (h.k3 (setB_ne' (by decide) e)).le hl, fun e => ?_, fun e => ?_, fun e => ?_, fun e => ?_, fun e => ?_, fun e => ?_⟩
  · rw [setB_ne' (i := 3) (by decide) e] at n18; cases n18
  · rw [setB_ne' (i := 3) (by decide) e] at n18; cases n18
  · rw [setB_ne' (i := 3) (by decide) e] at n19; cases n19
  · have := h.not20 n19; rw [setB_ne' (i := 3) (by decide) e] at this; cases this
  · have := h.not20 n19; rw [setB_ne' (i := 3) (by decide) e] at this; cases this
  · rw [setB_ne' (i := 3) (by decide) e] at n19; cases n19
theorem P3.by1 (h : P3 H1 r c g H) (hg : g 8 = false) (hl : Heap.le H H') {w : Value} (hO : SVa H' w (bytesL r.t.toNat 2)) : P3 H1 r ⟨c.b, w, c.v2, c.v3, c.b4, c.v5, c.v6⟩ (setB g 8) H' := by
  obtain ⟨n18, n19⟩ := h.not18 (i := 8) (by simp) hg
  refine ⟨Heap.le_trans h.le hl, fun e => hl _ _ (h.k0 (setB_ne' (by decide) e)), fun _ => hO, fun e => (h.k2 (setB_ne' (by decide) e)).le hl, fun e => (h.k3 (setB_ne' (by decide) e)).le hl, fun e => ?_, fun e => ?_, fun e => ?_, fun e => ?_, fun e => ?_, fun e => ?_⟩
  · rw [setB_ne' (i := 8) (by decide) e] at n18; cases n18
  · rw [setB_ne' (i := 8) (by decide) e] at n18; cases n18
  · rw [setB_ne' (i := 8) (by decide) e] at n19; cases n19
  · have := h.not20 n19; rw [setB_ne' (i := 8) (by decide) e] at this; cases this
  · have := h.not20 n19; rw [setB_ne' (i := 8) (by decide) e] at this; cases this
  · rw [setB_ne' (i := 8) (by decide) e] at n19; cases n19
theorem P3.by2 (h : P3 H1 r c g H) (hg : g 13 = false) (hl : Heap.le H H') {w : Value} (hO : SVa H' w (bytesL r.s.toNat 4)) : P3 H1 r ⟨c.b, c.v1, w, c.v3, c.b4, c.v5, c.v6⟩ (setB g 13) H' := by
  obtain ⟨n18, n19⟩ := h.not18 (i := 13) (by simp) hg
  refine ⟨Heap.le_trans h.le hl, fun e => hl _ _ (h.k0 (setB_ne' (by decide) e)), fun e => (h.k1 (setB_ne' (by decide) e)).le hl, fun _ => hO, fun e => (h.k3 (setB_ne' (by decide) e)).le hl, fun e => ?_, fun e => ?_, fun e => ?_, fun e => ?_, fun e => ?_, fun e => ?_⟩
  · rw [setB_ne' (i := 13) (by decide) e] at n18; cases n18
  · rw [setB_ne' (i := 13) (by decide) e] at n18; cases n18
  · rw [setB_ne' (i := 13) (by decide) e] at n19; cases n19
  · have := h.not20 n19; rw [setB_ne' (i := 13) (by decide) e] at this; cases this
  · have := h.not20 n19; rw [setB_ne' (i := 13) (by decide) e] at this; cases this
  · rw [setB_ne' (i := 13) (by decide) e] at n19; cases n19
theorem P3.by3 (h : P3 H1 r c g H) (hg : g 17 = false) (hl : Heap.le H H') {w : Value} (hO : SVa H' w (bytesL r.am.toNat 4)) : P3 H1 r ⟨c.b, c.v1, c.v2, w, c.b4, c.v5, c.v6⟩ (setB g 17) H' := by
  obtain ⟨n18, n19⟩ := h.not18 (i := 17) (by simp) hg
  refine ⟨Heap.le_trans h.le hl, fun e => hl _ _ (h.k0 (setB_ne' (by decide) e)), fun e => (h.k1 (setB_ne' (by decide) e)).le hl, fun e => (h.k2 (setB_ne' (by decide) e)).le hl, fun _ => hO, fun e => ?_, fun e => ?_, fun e => ?_, fun e => ?_, fun e => ?_, fun e => ?_⟩
  · rw [setB_ne' (i := 17) (by decide) e] at n18; cases n18
  · rw [setB_ne' (i := 17) (by decide) e] at n18; cases n18
  · rw [setB_ne' (i := 17) (by decide) e] at n19; cases n19
  · have := h.not20 n19; rw [setB_ne' (i := 17) (by decide) e] at this; cases this
  · have := h.not20 n19; rw [setB_ne' (i := 17) (by decide) e] at this; cases this
  · rw [setB_ne' (i := 17) (by decide) e] at n19; cases n19
theorem P3.build4 (h : P3 H1 r c g H) (hg : g 18 = false) (h3 : g 3 = true) (h8 : g 8 = true) (h13 : g 13 = true) (h17 : g 17 = true) {b : Nat} (hb : H b = none) :
    P3 H1 r ⟨c.b, c.v1, c.v2, c.v3, b, c.v5, c.v6⟩ (setB g 18) (upd H b (.row true 0 [.slice (some ⟨c.b, 0, none⟩) 1 1, c.v1, c.v2, c.v3] 0)) := by
  have n19 : g 19 = false := by
    cases e : g 19 with
    | false => rfl
    | true => rw [h.o19 e] at hg; cases hg
  have hl := le_upd (.row true 0 [.slice (some ⟨c.b, 0, none⟩) 1 1, c.v1, c.v2, c.v3] 0) hb
  refine ⟨Heap.le_trans h.le hl, fun _ => hl _ _ (h.k0 h3), fun _ => (h.k1 h8).le hl, fun _ => (h.k2 h13).le hl, fun _ => (h.k3 h17).le hl, fun _ => upd_same _ _ _, fun _ => ⟨setB_up h3, setB_up h8, setB_up h13, setB_up h17⟩, fun e => ?_, fun e => ?_, fun e => ?_, fun e => ?_⟩
  · rw [setB_ne' (i := 18) (by decide) e] at n19; cases n19
  · have := h.not20 n19; rw [setB_ne' (i := 18) (by decide) e] at this; cases this
  · have := h.not20 n19; rw [setB_ne' (i := 18) (by decide) e] at this; cases this
  · rw [setB_ne' (i := 18) (by decide) e] at n19; cases n19
theorem Own.since {H0 H R : Heap} (h0 : Heap.le H0 H) (h : Own H (fun _ => none) H' R) : Own H0 (fun _ => none) H' R := ⟨fun b o h1 h2 => h.mv b o h1 (h0 b o h2), h.le⟩
theorem P3.cat (h : P3 H1 r c g H) (hg : g 18 = true) : ∃ xs : List SZ, SlA H (some ⟨c.b4, 0, none⟩) 4 1 (rowsC SZ.cells xs) ∧ (∀ x ∈ xs, SlA H x.a x.n 1 (x.bs.map u8V) ∧ x.n ≤ 1000000) ∧ catB xs = headB r := by
  obtain ⟨h3, h8, h13, h17⟩ := h.o18 hg
  obtain ⟨a1, n1, d1, q1, s1⟩ := h.k1 h8
  obtain ⟨a2, n2, d2, q2, s2⟩ := h.k2 h13
  obtain ⟨a3, n3, d3, q3, s3⟩ := h.k3 h17
  have hr := h.k4 hg
  rw [q1, q2, q3] at hr
  have l1 : n1 = 2 := by have := s1.len; simp [bytesL_len] at this; omega
  have l2 : n2 = 4 := by have := s2.len; simp [bytesL_len] at this; omega
  have l3 : n3 = 4 := by have := s3.len; simp [bytesL_len] at this; omega
  refine ⟨[⟨some ⟨c.b, 0, none⟩, 1, 1, [kB r]⟩, ⟨a1, n1, d1, bytesL r.t.toNat 2⟩, ⟨a2, n2, d2, bytesL r.s.toNat 4⟩, ⟨a3, n3, d3, bytesL r.am.toNat 4⟩], SlA.row hr (Nat.le_refl _) rfl (by simp) rfl, ?_, by simp [catB, headB]⟩
  intro x hx
  simp only [List.mem_cons, List.not_mem_nil, or_false] at hx
  rcases hx with rfl | rfl | rfl | rfl
  · exact ⟨SlA.row (h.k0 h3) (Nat.le_refl _) rfl (by simp) rfl, by simp⟩
  · exact ⟨s1, by simp only; omega⟩
  · exact ⟨s2, by simp only; omega⟩
  · exact ⟨s3, by simp only; omega⟩
theorem P3.done (h : P3 H1 r c g H) (hg : g 19 = false) (h18 : g 18 = true) (hl : Heap.le H H') {w : Value} (hR : ∃ R, Own H (fun _ => none) H' R ∧ LstR R w 1 (headB r).length ((headB r).map u8V)) : P3 H1 r ⟨c.b, c.v1, c.v2, c.v3, c.b4, w, c.v6⟩ (setB g 19) H' := by
  obtain ⟨h3, h8, h13, h17⟩ := h.o18 h18
  obtain ⟨R, ow, hL⟩ := hR
  exact ⟨Heap.le_trans h.le hl, fun _ => hl _ _ (h.k0 h3), fun _ => (h.k1 h8).le hl, fun _ => (h.k2 h13).le hl, fun _ => (h.k3 h17).le hl, fun _ => hl _ _ (h.k4 h18), fun _ => ⟨setB_up h3, setB_up h8, setB_up h13, setB_up h17⟩, fun _ => setB_up h18, fun e => (by have := h.not20 hg; rw [setB_ne' (i := 19) (by decide) e] at this; cases this), fun e => (by have := h.not20 hg; rw [setB_ne' (i := 19) (by decide) e] at this; cases this), fun _ => ⟨R, ow.since h.le, hL⟩⟩
theorem P3.last (h : P3 H1 r c g H) (h19 : g 19 = true) : P3 H1 r ⟨c.b, c.v1, c.v2, c.v3, c.b4, c.v5, c.v5⟩ (setB g 20) H := by
  have h18 := h.o19 h19
  obtain ⟨h3, h8, h13, h17⟩ := h.o18 h18
  exact ⟨h.le, fun _ => h.k0 h3, fun _ => h.k1 h8, fun _ => h.k2 h13, fun _ => h.k3 h17, fun _ => h.k4 h18, fun _ => ⟨setB_up h3, setB_up h8, setB_up h13, setB_up h17⟩, fun _ => setB_up h18, fun _ => setB_up h19, fun _ => rfl, fun _ => h.k5 h19⟩
end
def catI (l : List Int) : List UInt8 := (l.map fun z => bytesL z.toNat 2).flatten
def catN (xs : List NZ) : List UInt8 := (xs.map fun x => catI x.l).flatten
theorem catI_step {l : List Int} {k : Nat} {z : Int} (h : l[k]? = some z) : catI (l.take (k + 1)) = catI (l.take k) ++ bytesL z.toNat 2 := by
  unfold catI; rw [List.take_add_one, h]; simp
theorem catN_step {xs : List NZ} {k : Nat} {x : NZ} (h : xs[k]? = some x) : catN (xs.take (k + 1)) = catN (xs.take k) ++ catI x.l := by
  unfold catN; rw [List.take_add_one, h]; simp
theorem catI_len (l : List Int) : (catI l).length = 2 * l.length := by
  unfold catI
  induction l with
  | nil => rfl
  | cons z l ih => rw [List.map_cons, List.flatten_cons, List.length_append, ih, bytesL_len, List.length_cons]; omega
theorem catN_len (xs : List NZ) : (catN xs).length = 8 * xs.length := by
  unfold catN
  induction xs with
  | nil => rfl
  | cons z l ih => rw [List.map_cons, List.flatten_cons, List.length_append, ih, catI_len, List.length_cons]; simp [NZ.l]; omega
def bodyB (r : RZ) : List UInt8 := headB r ++ catN [r.ns, r.rs, r.ls] ++ [UInt8.ofNat r.pan.size] ++ r.pan.data.toList
def putB (r : RZ) : List UInt8 := [165, UInt8.ofNat (bodyB r).length] ++ bodyB r ++ bytesL (crcN (bodyB r)) 4
theorem headB_len (r : RZ) : (headB r).length = 11 := by simp [headB, bytesL_len]
theorem bodyB_len (r : RZ) : (bodyB r).length = 36 + r.pan.size := by
  unfold bodyB
  simp only [List.length_append, headB_len, catN_len, List.length_cons, List.length_nil, Array.length_toList]
  show 11 + 8 * 3 + 1 + r.pan.size = _
  omega
def put0Inv (F R3 : Heap) (b1 bn : Nat) (r : RZ) (st : St) : Prop :=
  ∃ (k : Nat) (R : Heap), k ≤ 3 ∧ st.env 1 = .pointer (some ⟨b1, 0, none⟩) ∧ st.env 38 = .slice (some ⟨bn, 0, none⟩) 3 3 ∧ st.env 39 = .int .i64 3 ∧ st.env 40 = .int .i64 k ∧ Own F R3 st.heap R ∧ LstR R (st.env 4) 1 (headB r ++ catN ([r.ns, r.rs, r.ls].take k)).length ((headB r ++ catN ([r.ns, r.rs, r.ls].take k)).map u8V)
def put2Inv (F R3 : Heap) (b1 bn k : Nat) (r : RZ) (x : NZ) (st : St) : Prop :=
  ∃ (m : Nat) (R : Heap), m ≤ 4 ∧ st.env 1 = .pointer (some ⟨b1, 0, none⟩) ∧ st.env 38 = .slice (some ⟨bn, 0, none⟩) 3 3 ∧ st.env 39 = .int .i64 3 ∧ st.env 40 = .int .i64 k ∧ st.env 44 = .agg #[.int .i64 x.a, .int .i64 x.b, .int .i64 x.c, .int .i64 x.d] ∧ st.env 45 = .int .i64 m ∧ Own F R3 st.heap R ∧ LstR R (st.env 4) 1 (headB r ++ catN ([r.ns, r.rs, r.ls].take k) ++ catI (x.l.take m)).length ((headB r ++ catN ([r.ns, r.rs, r.ls].take k) ++ catI (x.l.take m)).map u8V)
theorem inC_of {x : NZ} (h : x.ok = true) {z : Int} (hz : z ∈ x.l) : 0 ≤ z ∧ z ≤ 10000 := by
  have := List.all_eq_true.1 h z hz
  simpa [inC] using this
set_option maxHeartbeats 4000000 in
theorem fput_c (r : RZ) (H : Heap) (hr : r.right = true) (hw : r.wf) : ECalls Try.prog 44 #[.agg #[.int .i64 r.kind, .int .u16 r.t, .int .u32 r.s, .string r.pan, .int .i64 r.am, .int .i64 r.ns.a, .int .i64 r.ns.b, .int .i64 r.ns.c, .int .i64 r.ns.d, .int .i64 r.rs.a, .int .i64 r.rs.b, .int .i64 r.rs.c, .int .i64 r.rs.d, .int .i64 r.ls.a, .int .i64 r.ls.b, .int .i64 r.ls.c, .int .i64 r.ls.d]] H fun v H' => ∃ sv R, v = .tuple #[sv, .int .i64 0] ∧ Own H (fun _ => none) H' R ∧ LstR R sv 1 (putB r).length ((putB r).map u8V) := by
  refine ecalls_of_ewp (args := [_]) Try.func44 rfl rfl rfl (by simp [Try.ntmps44]) (by kernel_rfl) ?_
  obtain ⟨⟨t1, t2⟩, ⟨s1', s2'⟩⟩ := hw
  have hrr := hr
  simp only [RZ.right, Bool.and_eq_true, decide_eq_true_eq] at hrr
  obtain ⟨⟨⟨⟨⟨⟨⟨⟨k1, k2⟩, k3⟩, k4⟩, k5⟩, k6⟩, k7⟩, k8⟩, k9⟩ := hrr
  simp (disch := first | omega | assumption | decide | (simp <;> omega) | fail) [facts, ]
  refine fresh_intro fun b1 hb1 => ?_
  have hle1 := le_upd (.row true 0 [.int .i64 r.kind, .int .u16 r.t, .int .u32 r.s, .string r.pan, .int .i64 r.am, .int .i64 r.ns.a, .int .i64 r.ns.b, .int .i64 r.ns.c, .int .i64 r.ns.d, .int .i64 r.rs.a, .int .i64 r.rs.b, .int .i64 r.rs.c, .int .i64 r.rs.d, .int .i64 r.ls.a, .int .i64 r.ls.b, .int .i64 r.ls.c, .int .i64 r.ls.d] 0) hb1
  have hrow := upd_same H b1 (.row true 0 [.int .i64 r.kind, .int .u16 r.t, .int .u32 r.s, .string r.pan, .int .i64 r.am, .int .i64 r.ns.a, .int .i64 r.ns.b, .int .i64 r.ns.c, .int .i64 r.ns.d, .int .i64 r.rs.a, .int .i64 r.rs.b, .int .i64 r.rs.c, .int .i64 r.rs.d, .int .i64 r.ls.a, .int .i64 r.ls.b, .int .i64 r.ls.c, .int .i64 r.ls.d] 0)
  generalize upd H b1 (.row true 0 [.int .i64 r.kind, .int .u16 r.t, .int .u32 r.s, .string r.pan, .int .i64 r.am, .int .i64 r.ns.a, .int .i64 r.ns.b, .int .i64 r.ns.c, .int .i64 r.ns.d, .int .i64 r.rs.a, .int .i64 r.rs.b, .int .i64 r.rs.c, .int .i64 r.rs.d, .int .i64 r.ls.a, .int .i64 r.ls.b, .int .i64 r.ls.c, .int .i64 r.ls.d] 0) = H0 at *
  simp (disch := first | omega | assumption | decide | (simp <;> omega) | fail) [facts, hrow]
  refine (right_c r H0 (by omega)).mono ?_
  rintro v H1 ⟨rfl, hle2⟩
  rw [hr]
  replace hrow := hle2 _ _ hrow
  have hkB : Value.int .u8 r.kind = u8V (kB r) := by
    unfold kB u8V
    congr 1
    rw [UInt8.toNat_ofNat']
    omega
  simp (disch := first | omega | assumption | decide | (simp <;> omega) | fail) [facts, ]
  refine w_vals (C := PC) (by simp [facts]) (by decide +kernel) (fun c => [.pointer (some ⟨b1, 0, none⟩), .int .i64 r.kind, .int .u8 r.kind, .slice (some ⟨c.b, 0, none⟩) 1 1, .pointer (some ⟨b1, 1, none⟩), .pointer (some ⟨b1, 1, none⟩), .int .u16 r.t, .int .u64 r.t, c.v1,
    .pointer (some ⟨b1, 1, none⟩), .pointer (some ⟨b1, 2, none⟩), .int .u32 r.s, .int .u64 r.s, c.v2, .pointer (some ⟨b1, 4, none⟩), .int .i64 r.am, .int .u64 r.am, c.v3, .slice (some ⟨c.b4, 0, none⟩) 4 4, c.v5, c.v6]) (P3 H1 r) ⟨0, undef, undef, undef, 0, undef, undef⟩ ?_ ?_ ?_
  · exact ⟨Heap.le_refl _, fun e => (by cases e), fun e => (by cases e), fun e => (by cases e), fun e => (by cases e), fun e => (by cases e), fun e => (by cases e), fun e => (by cases e), fun e => (by cases e), fun e => (by cases e), fun e => (by cases e)⟩
  · simp only [allFrom_cons, allFrom_nil, putAll_cons, putAll_nil]
    refine ⟨?_, ?_, ?_, ?_, ?_, ?_, ?_, ?_, ?_, ?_, ?_, ?_, ?_, ?_, ?_, ?_, ?_, ?_, ?_, ?_, ?_, trivial⟩
    all_goals (unfold stepV; intro c g Hx hg hr' hI)
    · simp (disch := first | omega | assumption | decide | (simp <;> omega) | fail) [facts, hrow]
      exact endV_same (by rintro d ⟨⟩; simp (disch := first | omega | assumption | decide | (simp <;> omega) | fail) [facts, hrow]) (hI.same 0 (by decide))
    · have hx := hI.le _ _ hrow
      simp (disch := first | omega | assumption | decide | (simp <;> omega) | fail) [facts, hx]
      exact endV_same (by rintro d ⟨⟩; simp (disch := first | omega | assumption | decide | (simp <;> omega) | fail) [facts, hrow]) (hI.same 1 (by decide))
    · simp (disch := first | omega | assumption | decide | (simp <;> omega) | fail) [facts, hrow]
      exact endV_same (by rintro d ⟨⟩; simp (disch := first | omega | assumption | decide | (simp <;> omega) | fail) [facts, hrow]) (hI.same 2 (by decide))
    · simp (disch := first | omega | assumption | decide | (simp <;> omega) | fail) [facts, ]
      refine fresh_intro fun b hb => ?_
      simp (disch := first | omega | assumption | decide | (simp <;> omega) | fail) [facts, ]
      rw [hkB]
      exact endV_to ⟨b, c.v1, c.v2, c.v3, c.b4, c.v5, c.v6⟩ (by rintro d ⟨⟩; simp (disch := first | omega | assumption | decide | (simp <;> omega) | fail) [facts, ]) (fun t ht => by have ht2 : t ≠ 15 := fun e' => ht (by rw [e']); simp [setE, ht2]) (hI.build hg hb)
    · simp (disch := first | omega | assumption | decide | (simp <;> omega) | fail) [facts, hrow]
      exact endV_same (by rintro d ⟨⟩; simp (disch := first | omega | assumption | decide | (simp <;> omega) | fail) [facts, hrow]) (hI.same 4 (by decide))
    · simp (disch := first | omega | assumption | decide | (simp <;> omega) | fail) [facts, hrow]
      exact endV_same (by rintro d ⟨⟩; simp (disch := first | omega | assumption | decide | (simp <;> omega) | fail) [facts, hrow]) (hI.same 5 (by decide))
    · have hx := hI.le _ _ hrow
      simp (disch := first | omega | assumption | decide | (simp <;> omega) | fail) [facts, hx]
      exact endV_same (by rintro d ⟨⟩; simp (disch := first | omega | assumption | decide | (simp <;> omega) | fail) [facts, hrow]) (hI.same 6 (by decide))
    · simp (disch := first | omega | assumption | decide | (simp <;> omega) | fail) [facts, hrow]
      exact endV_same (by rintro d ⟨⟩; simp (disch := first | omega | assumption | decide | (simp <;> omega) | fail) [facts, hrow]) (hI.same 7 (by decide))
    · simp (disch := first | omega | assumption | decide | (simp <;> omega) | fail) [facts, ]
      have cc := bytes_c r.t.toNat 2 Hx (by omega) (by unfold i64In; omega)
      rw [Int.toNat_of_nonneg (by omega)] at cc
      refine cc.mono ?_
      rintro w H' ⟨hl, hO⟩
      simp (disch := first | omega | assumption | decide | (simp <;> omega) | fail) [facts, ]
      exact endV_to ⟨c.b, w, c.v2, c.v3, c.b4, c.v5, c.v6⟩ (by rintro d ⟨⟩; simp (disch := first | omega | assumption | decide | (simp <;> omega) | fail) [facts, ]) (fun t ht => by have ht2 : t ≠ 20 := fun e' => ht (by rw [e']); simp [setE, ht2]) (hI.by1 hg hl (SVa.out hO))
    · simp (disch := first | omega | assumption | decide | (simp <;> omega) | fail) [facts, hrow]
      exact endV_same (by rintro d ⟨⟩; simp (disch := first | omega | assumption | decide | (simp <;> omega) | fail) [facts, hrow]) (hI.same 9 (by decide))
    · simp (disch := first | omega | assumption | decide | (simp <;> omega) | fail) [facts, hrow]
      exact endV_same (by rintro d ⟨⟩; simp (disch := first | omega | assumption | decide | (simp <;> omega) | fail) [facts, hrow]) (hI.same 10 (by decide))
    · have hx := hI.le _ _ hrow
      simp (disch := first | omega | assumption | decide | (simp <;> omega) | fail) [facts, hx]
      exact endV_same (by rintro d ⟨⟩; simp (disch := first | omega | assumption | decide | (simp <;> omega) | fail) [facts, hrow]) (hI.same 11 (by decide))
    · simp (disch := first | omega | assumption | decide | (simp <;> omega) | fail) [facts, hrow]
      exact endV_same (by rintro d ⟨⟩; simp (disch := first | omega | assumption | decide | (simp <;> omega) | fail) [facts, hrow]) (hI.same 12 (by decide))
    · simp (disch := first | omega | assumption | decide | (simp <;> omega) | fail) [facts, ]
      have cc := bytes_c r.s.toNat 4 Hx (by omega) (by unfold i64In; omega)
      rw [Int.toNat_of_nonneg (by omega)] at cc
      refine cc.mono ?_
      rintro w H' ⟨hl, hO⟩
      simp (disch := first | omega | assumption | decide | (simp <;> omega) | fail) [facts, ]
      exact endV_to ⟨c.b, c.v1, w, c.v3, c.b4, c.v5, c.v6⟩ (by rintro d ⟨⟩; simp (disch := first | omega | assumption | decide | (simp <;> omega) | fail) [facts, ]) (fun t ht => by have ht2 : t ≠ 25 := fun e' => ht (by rw [e']); simp [setE, ht2]) (hI.by2 hg hl (SVa.out hO))
    · simp (disch := first | omega | assumption | decide | (simp <;> omega) | fail) [facts, hrow]
      exact endV_same (by rintro d ⟨⟩; simp (disch := first | omega | assumption | decide | (simp <;> omega) | fail) [facts, hrow]) (hI.same 14 (by decide))
    · have hx := hI.le _ _ hrow
      simp (disch := first | omega | assumption | decide | (simp <;> omega) | fail) [facts, hx]
      exact endV_same (by rintro d ⟨⟩; simp (disch := first | omega | assumption | decide | (simp <;> omega) | fail) [facts, hrow]) (hI.same 15 (by decide))
    · simp (disch := first | omega | assumption | decide | (simp <;> omega) | fail) [facts, hrow]
      exact endV_same (by rintro d ⟨⟩; simp (disch := first | omega | assumption | decide | (simp <;> omega) | fail) [facts, hrow]) (hI.same 16 (by decide))
    · simp (disch := first | omega | assumption | decide | (simp <;> omega) | fail) [facts, ]
      have cc := bytes_c r.am.toNat 4 Hx (by omega) (by unfold i64In; omega)
      rw [Int.toNat_of_nonneg (by omega)] at cc
      refine cc.mono ?_
      rintro w H' ⟨hl, hO⟩
      simp (disch := first | omega | assumption | decide | (simp <;> omega) | fail) [facts, ]
      exact endV_to ⟨c.b, c.v1, c.v2, w, c.b4, c.v5, c.v6⟩ (by rintro d ⟨⟩; simp (disch := first | omega | assumption | decide | (simp <;> omega) | fail) [facts, ]) (fun t ht => by have ht2 : t ≠ 29 := fun e' => ht (by rw [e']); simp [setE, ht2]) (hI.by3 hg hl (SVa.out hO))
    · have g3 : g 3 = true := hr' ⟨3, .data⟩ (by simp) (by decide)
      have g8 : g 8 = true := hr' ⟨8, .data⟩ (by simp) (by decide)
      have g13 : g 13 = true := hr' ⟨13, .data⟩ (by simp) (by decide)
      have g17 : g 17 = true := hr' ⟨17, .data⟩ (by simp) (by decide)
      obtain ⟨e1, n1, d1, q1, _⟩ := hI.k1 g8
      obtain ⟨e2, n2, d2, q2, _⟩ := hI.k2 g13
      obtain ⟨e3, n3, d3, q3, _⟩ := hI.k3 g17
      have hb4 := fun (b : Nat) (hb : Hx b = none) => hI.build4 hg g3 g8 g13 g17 hb
      rw [q1, q2, q3] at hb4
      simp (disch := first | omega | assumption | decide | (simp <;> omega) | fail) [facts, q1, q2, q3]
      refine fresh_intro fun b hb => ?_
      simp (disch := first | omega | assumption | decide | (simp <;> omega) | fail) [facts, ]
      refine endV_to ⟨c.b, c.v1, c.v2, c.v3, b, c.v5, c.v6⟩ (by rintro d ⟨⟩; simp (disch := first | omega | assumption | decide | (simp <;> omega) | fail) [facts, ]) (fun t ht => by have ht2 : t ≠ 30 := fun e' => ht (by rw [e']); simp [setE, ht2]) ?_
      rw [q1, q2, q3]
      exact hb4 b hb
    · have g18 : g 18 = true := hr' ⟨18, .data⟩ (by simp) (by decide)
      obtain ⟨xs, hsl, hds, hcat⟩ := hI.cat g18
      simp (disch := first | omega | assumption | decide | (simp <;> omega) | fail) [facts, ]
      refine (concat_c _ 4 4 xs Hx hsl hds (by decide)).mono ?_
      rintro w H' ⟨R, ow, hL⟩
      rw [hcat] at hL
      simp (disch := first | omega | assumption | decide | (simp <;> omega) | fail) [facts, ]
      exact endV_to ⟨c.b, c.v1, c.v2, c.v3, c.b4, w, c.v6⟩ (by rintro d ⟨⟩; simp (disch := first | omega | assumption | decide | (simp <;> omega) | fail) [facts, ]) (fun t ht => by have ht2 : t ≠ 31 := fun e' => ht (by rw [e']); simp [setE, ht2]) (hI.done hg g18 ow.all ⟨R, ow, hL⟩)
    · have g19 : g 19 = true := hr' ⟨19, .data⟩ (by simp) (by decide)
      simp (disch := first | omega | assumption | decide | (simp <;> omega) | fail) [facts, ]
      exact endV_to ⟨c.b, c.v1, c.v2, c.v3, c.b4, c.v5, c.v5⟩ (by rintro d ⟨⟩; simp (disch := first | omega | assumption | decide | (simp <;> omega) | fail) [facts, ]) (fun t ht => by have ht2 : t ≠ 4 := fun e' => ht (by rw [e']); simp [setE, ht2]) (hI.last g19)
  intro c g H2 hall hI
  obtain ⟨R3, ow3, hL3⟩ := hI.k5 (hall 19 (by decide))
  have h6 := hI.k6 (hall 20 (by decide))
  have hle3 := hI.le
  simp only [putAll_cons, putAll_nil]
  rw [h6]
  have hR3 := (ow3.mv _ _ rfl hrow).1
  have hrow2 := hle3 _ _ hrow
  clear hI hall
  generalize c.v5 = sv0 at *
  simp (disch := first | omega | assumption | decide | (simp <;> omega) | fail) [facts, hrow2]
  refine fresh_intro fun bn hbn => ?_
  simp (disch := first | omega | assumption | decide | (simp <;> omega) | fail) [facts, notes3 r.ns r.rs r.ls]
  have hbnR : R3 bn = none := le_of_none ow3.le hbn
  have hleF := le_upd (.row true 0 (rowsC NZ.cells [r.ns, r.rs, r.ls]) 0) hbn
  have hFbn := upd_same H2 bn (.row true 0 (rowsC NZ.cells [r.ns, r.rs, r.ls]) 0)
  generalize upd H2 bn (.row true 0 (rowsC NZ.cells [r.ns, r.rs, r.ls]) 0) = F at *
  have hrowF := hleF _ _ hrow2
  have hRF : Heap.le R3 F := Heap.le_trans ow3.le hleF
  have hslF : SlA F (some ⟨bn, 0, none⟩) 3 4 (rowsC NZ.cells [r.ns, r.rs, r.ls]) := SlA.row hFbn (Nat.le_refl _) rfl (by simp [rowsC, NZ.cells]) (by simp [rowsC, NZ.cells])
  have owF : Own H (fun _ => none) F R3 := Own.since (Heap.le_trans hle1 hle2) (ow3.grow hleF)
  refine w_loop (put0Inv F R3 b1 bn r) (fun st => 3 - (intOf (st.env 40)).toNat) ?_ ?_
  · exact ⟨0, R3, by decide, by simp, by simp, by simp, by simp, Own.refl hRF, by simpa [catN] using hL3⟩
  rintro ⟨env, G⟩ ⟨k, R, hk, e1, e38, e39, e40, ow, hls⟩
  simp only at e1 e38 e39 e40 ow hls
  have hnsok : ∀ x ∈ [r.ns, r.rs, r.ls], x.ok = true := fun x hx => by
    simp only [List.mem_cons, List.not_mem_nil, or_false] at hx
    rcases hx with rfl | rfl | rfl <;> assumption
  by_cases hlt : k < 3
  · have hltI : (k : Int) < 3 := by omega
    obtain ⟨x, hx⟩ : ∃ x, [r.ns, r.rs, r.ls][k]? = some x := ⟨_, List.getElem?_eq_getElem (by simpa using hlt)⟩
    have hxok := hnsok x (List.mem_of_getElem? hx)
    have hbG := (ow.mv _ _ hbnR hFbn).2
    have hslG : SlA G (some ⟨bn, 0, none⟩) 3 4 (rowsC NZ.cells [r.ns, r.rs, r.ls]) := SlA.row hbG (Nat.le_refl _) rfl (by simp [rowsC, NZ.cells]) (by simp [rowsC, NZ.cells])
    have rx : rdNU (G bn) (0 + k * 4) 4 = some [.int .i64 x.a, .int .i64 x.b, .int .i64 x.c, .int .i64 x.d] := hslG.el n4 hx (j := 0) (r := 4) (by decide) (by decide)
    rw [Nat.zero_add] at rx
    generalize e4 : env 4 = sv at hls
    simp (disch := first | omega | assumption | decide | (simp <;> omega) | fail) [facts, e1, e38, e39, e40, e4, hltI, rx]
    refine fresh_intro fun b6 hb6 => ?_
    simp (disch := first | omega | assumption | decide | (simp <;> omega) | fail) [facts, upd_upd, upd_same]
    refine w_loop (put2Inv F R3 b1 bn k r x) (fun st => 4 - (intOf (st.env 45)).toNat) ?_ ?_
    · exact ⟨0, R, by decide, by simp [e1], by simp [e38], by simp [e39], by simp [e40], by simp, by simp, ow.grow (le_upd _ hb6), by simpa [catI, e4] using hls⟩
    clear e1 e38 e39 e40 e4 ow hls hbG hslG rx
    rintro ⟨env2, G2⟩ ⟨m, R', hm, e1, e38, e39, e40, e44, e45, ow, hls⟩
    simp only at e1 e38 e39 e40 e44 e45 ow hls
    by_cases hm4 : m < 4
    · have hm4I : (m : Int) < 4 := by omega
      obtain ⟨z, hz⟩ : ∃ z, x.l[m]? = some z := ⟨_, List.getElem?_eq_getElem (by simpa [NZ.l] using hm4)⟩
      have rz := x.at hz
      obtain ⟨hmm, rz2⟩ := List.getElem?_eq_some_iff.1 rz
      have hzb := inC_of hxok (List.mem_of_getElem? hz)
      generalize e4 : env2 4 = sv2 at hls
      have cc := bytes_c z.toNat 2 G2 (by omega) (by unfold i64In; omega)
      rw [Int.toNat_of_nonneg (by omega)] at cc
      simp (disch := first | omega | assumption | decide | (simp <;> omega) | fail) [facts, e1, e38, e39, e40, e44, e45, e4, hm4I, rz, rz2]
      refine cc.mono ?_
      rintro w G3 ⟨hl3, hO⟩
      obtain ⟨aw, cw, rfl, hsw⟩ := hO.sl
      have hstep := catI_step hz
      simp (disch := first | omega | assumption | decide | (simp <;> omega) | fail) [facts, e4]
      refine hls.app (H0 := F) (B0 := R3) (e := 5) (s := 1) (nbs := 1) (z := .int .u8 0) (m := 2) (ys := (bytesL z.toNat 2).map u8V) (by simp [facts]) (by simp [facts]) (by simp [facts]) (by simp [facts]) rfl (by decide) (ow.grow hl3)
        (src_sl (e1 := 5) (z := .int .u8 0) (by simp [facts]) (by simp [facts]) (by simp [facts]) hsw) (by simp [bytesL_len]) (by simp [u8V, Value.oneCell']) ?_ ?_
      · simp only [List.length_append, headB_len, catN_len, catI_len, List.length_take]
        simp [NZ.l]; omega
      intro v' H' R'' ow' hl' _ _
      simp (disch := first | omega | assumption | decide | (simp <;> omega) | fail) [facts, e45]
      refine ⟨_, Heap.le_refl _, ⟨m + 1, R'', by omega, by simp [e1], by simp [e38], by simp [e39], by simp [e40], by simp [e44], by simp, ow', ?_⟩, by simp [intOf, e45]; omega⟩
      rw [hstep, ← List.append_assoc, List.length_append (bs := bytesL z.toNat 2), List.map_append, bytesL_len]
      simpa using hl'
    · have hm44 : m = 4 := by omega
      subst hm44
      simp (disch := first | omega | assumption | decide | (simp <;> omega) | fail) [facts, e1, e38, e39, e40, e44, e45]
      refine ⟨_, Heap.le_refl _, ⟨k + 1, R', by omega, by simp [e1], by simp [e38], by simp [e39], by simp, ow, ?_⟩, by simp [intOf, e40]; omega⟩
      rw [catN_step hx, ← List.append_assoc]
      rw [show x.l.take 4 = x.l from rfl] at hls
      simpa using hls
  have hk3 : k = 3 := by omega
  subst hk3
  have etk : [r.ns, r.rs, r.ls].take 3 = [r.ns, r.rs, r.ls] := rfl
  rw [etk] at hls
  generalize e4 : env 4 = sv at hls
  have hrowG := (ow.mv _ _ hR3 hrowF).2
  have hRb1 := (ow.mv _ _ hR3 hrowF).1
  simp (disch := first | omega | assumption | decide | (simp <;> omega) | fail) [facts, e1, e38, e39, e40, e4]
  have hbl := bodyB_len r
  have hhl : (headB r ++ catN [r.ns, r.rs, r.ls]).length = 35 := by rw [List.length_append, headB_len, catN_len]; rfl
  obtain ⟨I, hI⟩ : ∃ I : St → Prop, I = (fun st => ∃ R', Own F R3 st.heap R' ∧ LstR R' (st.env 4) 1 (bodyB r).length ((bodyB r).map u8V)) := ⟨_, rfl⟩
  have hpanb : IntKind.wrap .u8 (r.pan.size : Int) = (r.pan.size : Int) := wr_u8 (by omega) (by omega)
  have hpanB : Value.int .u8 (r.pan.size : Int) = u8V (UInt8.ofNat r.pan.size) := by
    unfold u8V
    congr 1
    rw [UInt8.toNat_ofNat']
    omega
  have hpone : (r.pan.data.toList.map u8V).all (·.oneCell') = true := List.all_eq_true.2 fun v hv => by
    obtain ⟨c', _, rfl⟩ := List.mem_map.1 hv
    rfl
  refine w_cut I ?_ ?_
  · refine w_plan (by simp [facts]) (opsP [0,1,7] (.both (opsP [2,3,4] (.both (opsP [5] (.both (opsP [6,8,9,10] .done) (opsP [8,6,9,10] .done))) (opsP [8,5,6,9,10] .done))) (opsP [8,2,3,4,5,6,9,10] .done))) (by decide +kernel) ?_
    simp (disch := first | omega | assumption | decide | (simp <;> omega) | fail) [facts, e1, e4, hrowG]
    repeat' apply And.intro
    all_goals
      refine fresh_intro fun b hb => ?_
      have hrow5 := upd_other (o := .row true 0 [.int .u8 (r.pan.size : Int)] 0) hb hrowG
      simp (disch := first | omega | assumption | decide | (simp <;> omega) | fail) [facts, e1, e4, hrow5]
      repeat' apply And.intro
    all_goals
      refine hls.app (H0 := F) (B0 := R3) (e := 5) (s := 1) (nbs := 1) (z := .int .u8 0) (m := 1) (ys := [.int .u8 (r.pan.size : Int)]) (by simp [facts]) (by simp [facts]) (by simp [facts]) (by simp [facts]) rfl (by decide) (ow.grow (le_upd _ (by assumption)))
        (srcOne (e1 := 5) (z := .int .u8 0) (by simp [facts]) (by simp [facts]) (by simp [facts]) rfl) rfl rfl (by omega) ?_
      intro v' H' R' ow' hl' _ _
      have hrow6 := (ow'.mv _ _ hR3 hrowF).2
      simp (disch := first | omega | assumption | decide | (simp <;> omega) | fail) [facts, hrow6]
      refine hl'.app (H0 := F) (B0 := R3) (e := 5) (s := 1) (nbs := 1) (z := .int .u8 0) (m := r.pan.size) (ys := r.pan.data.toList.map u8V) (by simp [facts]) (by simp [facts]) (by simp [facts]) (by simp [facts]) rfl (by decide) ow'
        (src_str (z := .int .u8 0) (by simp [facts]) (by simp [facts]) (by simp [facts])) (by simp) hpone (by omega) ?_
      intro v2 H2' R2' ow2 hl2 _ _
      simp (disch := first | omega | assumption | decide | (simp <;> omega) | fail) [facts, ]
      subst hI
      have e1 : (headB r ++ catN [r.ns, r.rs, r.ls]).length + 1 + r.pan.size = (bodyB r).length := by omega
      have e2 : (headB r ++ catN [r.ns, r.rs, r.ls]).map u8V ++ [.int .u8 (r.pan.size : Int)] ++ r.pan.data.toList.map u8V = (bodyB r).map u8V := by rw [hpanB]; unfold bodyB; simp only [List.map_append, List.map_cons, List.map_nil]
      rw [e1, e2] at hl2
      exact ⟨R2', ow2, by simpa using hl2⟩
  rintro ⟨env5, G5⟩ hS
  subst hI
  obtain ⟨R5, ow5, hl5⟩ := hS
  clear e1 e38 e39 e40 e4 hls ow hrowG
  simp only at ow5 hl5
  generalize e4 : env5 4 = sv5 at hl5
  obtain ⟨a5, c5, rfl, hs5, _⟩ := hl5.sl ow5.le
  have hwb : IntKind.wrap .u8 ((bodyB r).length : Int) = ((bodyB r).length : Int) := wr_u8 (by omega) (by omega)
  simp (disch := first | omega | assumption | decide | (simp <;> omega) | fail) [facts, e4, hwb]
  refine fresh_intro fun bm hbm => ?_
  have hlm := le_upd (.row true 0 [.int .u8 165, .int .u8 ((bodyB r).length : Int)] 0) hbm
  have hrm := upd_same G5 bm (.row true 0 [.int .u8 165, .int .u8 ((bodyB r).length : Int)] 0)
  simp (disch := first | omega | assumption | decide | (simp <;> omega) | fail) [facts, e4]
  generalize upd G5 bm (.row true 0 [.int .u8 165, .int .u8 ((bodyB r).length : Int)] 0) = G6 at *
  refine (sum_c a5 _ c5 (bodyB r) G6 (hs5.le hlm) (by omega)).mono ?_
  rintro v G7 ⟨rfl, rfl⟩
  have hcl := crcN_lt (bodyB r)
  simp (disch := first | omega | assumption | decide | (simp <;> omega) | fail) [facts, ]
  refine (bytes_c (crcN (bodyB r)) 4 G7 (by omega) (by unfold i64In; omega)).mono ?_
  rintro w G8 ⟨hl8, hO⟩
  obtain ⟨aw, cw, rfl, hsw⟩ := hO.sl
  simp (disch := first | omega | assumption | decide | (simp <;> omega) | fail) [facts, e4]
  refine fresh_intro fun b4 hb4 => ?_
  have hl4 := le_upd (.row true 0 [.slice (some ⟨bm, 0, none⟩) 2 2, .slice a5 (bodyB r).length c5, .slice aw (sizeZ 4) cw] 0) hb4
  have hr4 := upd_same G8 b4 (.row true 0 [.slice (some ⟨bm, 0, none⟩) 2 2, .slice a5 (bodyB r).length c5, .slice aw (sizeZ 4) cw] 0)
  simp (disch := first | omega | assumption | decide | (simp <;> omega) | fail) [facts, e4]
  generalize upd G8 b4 (.row true 0 [.slice (some ⟨bm, 0, none⟩) 2 2, .slice a5 (bodyB r).length c5, .slice aw (sizeZ 4) cw] 0) = G9 at *
  have hlenB : Value.int .u8 ((bodyB r).length : Int) = u8V (UInt8.ofNat (bodyB r).length) := by
    unfold u8V
    congr 1
    rw [UInt8.toNat_ofNat']
    omega
  have hcat : catB [⟨some ⟨bm, 0, none⟩, 2, 2, [165, UInt8.ofNat (bodyB r).length]⟩, ⟨a5, (bodyB r).length, c5, bodyB r⟩, ⟨aw, sizeZ 4, cw, bytesL (crcN (bodyB r)) 4⟩] = putB r := by simp [catB, putB]
  have h58 := Heap.le_trans hl8 hl4
  refine (concat_c (some ⟨b4, 0, none⟩) 3 3 [⟨some ⟨bm, 0, none⟩, 2, 2, [165, UInt8.ofNat (bodyB r).length]⟩, ⟨a5, (bodyB r).length, c5, bodyB r⟩, ⟨aw, sizeZ 4, cw, bytesL (crcN (bodyB r)) 4⟩] G9 (SlA.row hr4 (Nat.le_refl _) rfl (by simp) rfl) ?_ (by decide)).mono ?_
  · intro x hx
    simp only [List.mem_cons, List.not_mem_nil, or_false] at hx
    rcases hx with rfl | rfl | rfl
    · refine ⟨SlA.row (h58 _ _ hrm) (Nat.le_refl _) rfl (by simp) ?_, by simp⟩
      simp only [List.map_cons, List.map_nil, Nat.sub_self, List.drop_zero]
      rw [← hlenB]; rfl
    · exact ⟨(hs5.le hlm).le h58, by simp only; omega⟩
    · exact ⟨hsw.le hl4, by show sizeZ 4 ≤ 1000000; decide⟩
  rintro v G10 ⟨R, owR, hLR⟩
  rw [hcat] at hLR
  have hHG : Heap.le H G9 := Heap.le_trans (owF.trans ow5).all (Heap.le_trans hlm h58)
  simp (disch := first | omega | assumption | decide | (simp <;> omega) | fail) [facts, ]
  exact ⟨_, Heap.le_refl _, R, owR.since hHG, hLR⟩
theorem fput_no (r : RZ) (H : Heap) (hr : r.right = false) (hp : r.pan.size ≤ 140737488351232) : ECalls Try.prog 44 #[.agg #[.int .i64 r.kind, .int .u16 r.t, .int .u32 r.s, .string r.pan, .int .i64 r.am, .int .i64 r.ns.a, .int .i64 r.ns.b, .int .i64 r.ns.c, .int .i64 r.ns.d, .int .i64 r.rs.a, .int .i64 r.rs.b, .int .i64 r.rs.c, .int .i64 r.rs.d, .int .i64 r.ls.a, .int .i64 r.ls.b, .int .i64 r.ls.c, .int .i64 r.ls.d]] H fun v H' => v = .tuple #[.slice none 0 0, .int .i64 27] ∧ Heap.le H H' := by
  refine ecalls_of_ewp (args := [_]) Try.func44 rfl rfl rfl (by simp [Try.ntmps44]) (by kernel_rfl) ?_
  simp (disch := first | omega | assumption | decide | (simp <;> omega) | fail) [facts, ]
  refine fresh_intro fun b1 hb1 => ?_
  have hle1 := le_upd (.row true 0 [.int .i64 r.kind, .int .u16 r.t, .int .u32 r.s, .string r.pan, .int .i64 r.am, .int .i64 r.ns.a, .int .i64 r.ns.b, .int .i64 r.ns.c, .int .i64 r.ns.d, .int .i64 r.rs.a, .int .i64 r.rs.b, .int .i64 r.rs.c, .int .i64 r.rs.d, .int .i64 r.ls.a, .int .i64 r.ls.b, .int .i64 r.ls.c, .int .i64 r.ls.d] 0) hb1
  have hrow := upd_same H b1 (.row true 0 [.int .i64 r.kind, .int .u16 r.t, .int .u32 r.s, .string r.pan, .int .i64 r.am, .int .i64 r.ns.a, .int .i64 r.ns.b, .int .i64 r.ns.c, .int .i64 r.ns.d, .int .i64 r.rs.a, .int .i64 r.rs.b, .int .i64 r.rs.c, .int .i64 r.rs.d, .int .i64 r.ls.a, .int .i64 r.ls.b, .int .i64 r.ls.c, .int .i64 r.ls.d] 0)
  generalize upd H b1 (.row true 0 [.int .i64 r.kind, .int .u16 r.t, .int .u32 r.s, .string r.pan, .int .i64 r.am, .int .i64 r.ns.a, .int .i64 r.ns.b, .int .i64 r.ns.c, .int .i64 r.ns.d, .int .i64 r.rs.a, .int .i64 r.rs.b, .int .i64 r.rs.c, .int .i64 r.rs.d, .int .i64 r.ls.a, .int .i64 r.ls.b, .int .i64 r.ls.c, .int .i64 r.ls.d] 0) = H0 at *
  simp (disch := first | omega | assumption | decide | (simp <;> omega) | fail) [facts, hrow]
  refine (right_c r H0 hp).mono ?_
  rintro v H1 ⟨rfl, hle2⟩
  rw [hr]
  simp (disch := first | omega | assumption | decide | (simp <;> omega) | fail) [facts, ]
  exact ⟨_, Heap.le_refl _, Heap.le_trans hle1 hle2⟩
end Go.Proofs.Ytnmbmccigpljnaa.GL
