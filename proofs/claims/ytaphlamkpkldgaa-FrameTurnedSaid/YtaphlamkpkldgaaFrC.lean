/- Layer 4: the sum of bytes. -/
import Derived.Test.YtaphlamkpkldgaaFrB
namespace Go.Proofs.Ytaphlamkpkldgaa.GL
open Go Go.RowKit
set_option maxRecDepth 10000
set_option pp.deepTerms.threshold 8
set_option pp.maxSteps 3000
set_option linter.unusedSimpArgs false
set_option linter.unusedVariables false

def poly : Nat := 2197175160
def cs (x : Nat) : Nat := if x % 2 = 1 then x / 2 ^^^ poly else x / 2
def csN : Nat → Nat → Nat
  | 0, x => x
  | k + 1, x => csN k (cs x)
def cb (x : Nat) (c : UInt8) : Nat := csN 8 (x ^^^ c.toNat)
def crcS (bs : List UInt8) : Nat := bs.foldl cb 4294967295
def crcN (bs : List UInt8) : Nat := 4294967295 ^^^ crcS bs
theorem cs_lt {x : Nat} (h : x < 2 ^ 32) : cs x < 2 ^ 32 := by
  unfold cs
  split
  · exact Nat.xor_lt_two_pow (by omega) (by decide)
  · omega
theorem csN_lt : ∀ (k : Nat) {x : Nat}, x < 2 ^ 32 → csN k x < 2 ^ 32
  | 0, _, h => h
  | k + 1, _, h => csN_lt k (cs_lt h)
theorem csN_succ : ∀ (k x : Nat), csN (k + 1) x = cs (csN k x)
  | 0, x => rfl
  | k + 1, x => csN_succ k (cs x)
theorem cb_lt {x : Nat} (h : x < 2 ^ 32) (c : UInt8) : cb x c < 2 ^ 32 := csN_lt 8 (Nat.xor_lt_two_pow h (by have := c.toNat_lt; omega))
theorem foldl_lt : ∀ (bs : List UInt8) {x : Nat}, x < 2 ^ 32 → bs.foldl cb x < 2 ^ 32
  | [], _, h => h
  | c :: l, _, h => foldl_lt l (cb_lt h c)
theorem crcS_lt (bs : List UInt8) : crcS bs < 2 ^ 32 := foldl_lt bs (by decide)
theorem crcN_lt (bs : List UInt8) : crcN bs < 2 ^ 32 := Nat.xor_lt_two_pow (by decide) (crcS_lt bs)
theorem crcS_take {bs : List UInt8} {k : Nat} {c : UInt8} (h : bs[k]? = some c) : crcS (bs.take (k + 1)) = cb (crcS (bs.take k)) c := by
  unfold crcS
  rw [List.take_add_one, h]; simp
/-- Each step can be told back. -/
theorem cs_inj {x y : Nat} (hx : x < 2 ^ 32) (hy : y < 2 ^ 32) (h : cs x = cs y) : x = y := by
  have hb : ∀ z : Nat, z < 2 ^ 32 → (cs z).testBit 31 = decide (z % 2 = 1) := fun z hz => by
    unfold cs
    by_cases hz2 : z % 2 = 1
    · rw [if_pos hz2, Nat.testBit_xor, Nat.testBit_lt_two_pow (show z / 2 < 2 ^ 31 by omega)]
      simp [hz2]; decide
    · rw [if_neg hz2, Nat.testBit_lt_two_pow (show z / 2 < 2 ^ 31 by omega)]
      simp [hz2]
  have h1 := hb x hx
  have h2 := hb y hy
  rw [h] at h1
  have hm : (decide (x % 2 = 1)) = decide (y % 2 = 1) := h1.symm.trans h2
  have hm' : x % 2 = y % 2 := by
    by_cases a : x % 2 = 1 <;> by_cases b : y % 2 = 1 <;> simp [a, b] at hm <;> omega
  unfold cs at h
  rw [hm'] at h
  have hd : x / 2 = y / 2 := by
    by_cases a : y % 2 = 1
    · rw [if_pos a, if_pos a] at h
      have := congrArg (· ^^^ poly) h
      simpa [Nat.xor_assoc] using this
    · rw [if_neg a, if_neg a] at h
      exact h
  omega
theorem csN_inj : ∀ (k : Nat) {x y : Nat}, x < 2 ^ 32 → y < 2 ^ 32 → csN k x = csN k y → x = y
  | 0, _, _, _, _, h => h
  | k + 1, _, _, hx, hy, h => cs_inj hx hy (csN_inj k (cs_lt hx) (cs_lt hy) h)
theorem cb_inj {x y : Nat} {c : UInt8} (hx : x < 2 ^ 32) (hy : y < 2 ^ 32) (h : cb x c = cb y c) : x = y := by
  have hc := c.toNat_lt
  have := csN_inj 8 (Nat.xor_lt_two_pow hx (by omega)) (Nat.xor_lt_two_pow hy (by omega)) h
  have := congrArg (· ^^^ c.toNat) this
  simpa [Nat.xor_assoc] using this
theorem cb_injC {x : Nat} {c d : UInt8} (hx : x < 2 ^ 32) (h : cb x c = cb x d) : c = d := by
  have hc := c.toNat_lt
  have hd := d.toNat_lt
  have := csN_inj 8 (Nat.xor_lt_two_pow hx (by omega)) (Nat.xor_lt_two_pow hx (by omega)) h
  have := congrArg (x ^^^ ·) this
  simp only [← Nat.xor_assoc, Nat.xor_self, Nat.zero_xor] at this
  exact UInt8.toNat_inj.1 this
theorem foldl_inj : ∀ (bs : List UInt8) {x y : Nat}, x < 2 ^ 32 → y < 2 ^ 32 → bs.foldl cb x = bs.foldl cb y → x = y
  | [], _, _, _, _, h => h
  | c :: l, _, _, hx, hy, h => cb_inj hx hy (foldl_inj l (cb_lt hx c) (cb_lt hy c) h)
/-- One byte that is another: another sum. -/
theorem crc_one {bs : List UInt8} {i : Nat} {c d : UInt8} (h : bs[i]? = some c) (hne : d ≠ c) : crcN (bs.set i d) ≠ crcN bs := by
  intro e
  have e2 : crcS (bs.set i d) = crcS bs := by
    have := congrArg (4294967295 ^^^ ·) e
    unfold crcN at this
    simpa [← Nat.xor_assoc] using this
  obtain ⟨hlt, hc⟩ := List.getElem?_eq_some_iff.1 h
  have s1 : bs = bs.take i ++ (c :: bs.drop (i + 1)) := by
    rw [← hc, ← List.drop_eq_getElem_cons hlt, List.take_append_drop]
  have s2 : bs.set i d = bs.take i ++ (d :: bs.drop (i + 1)) := List.set_eq_take_append_cons_drop.trans (by rw [if_pos hlt])
  rw [s2] at e2
  conv at e2 => rhs; rw [s1]
  unfold crcS at e2
  rw [List.foldl_append, List.foldl_append, List.foldl_cons, List.foldl_cons] at e2
  have hx := foldl_lt (bs.take i) (x := 4294967295) (by decide)
  exact hne (cb_injC hx (foldl_inj _ (cb_lt hx d) (cb_lt hx c) e2))

theorem step_xor (x : Nat) (c : UInt8) (hx : x < 2 ^ 32) : xorK .u32 (x : Int) (c.toNat : Int) = ((x ^^^ c.toNat : Nat) : Int) := xorK_nat _ _ _ (by simpa [IntKind.bits] using hx) (by have := c.toNat_lt; simp only [IntKind.bits]; omega) rfl
theorem step_shr (x : Nat) : shrK .u32 (x : Int) 1 = ((x / 2 : Nat) : Int) := shrK_nat _ _ _ (by decide)
theorem step_and (x : Nat) (hx : x < 2 ^ 32) : andK .u32 (x : Int) 1 = ((x % 2 : Nat) : Int) := by
  have := andK_nat .u32 x 1 (by simpa [IntKind.bits] using hx) (by decide) rfl
  rw [Nat.and_one_is_mod] at this
  exact this
theorem step_poly (x : Nat) (hx : x < 2 ^ 32) : xorK .u32 (x : Int) 2197175160 = ((x ^^^ poly : Nat) : Int) := xorK_nat .u32 x poly (by simpa [IntKind.bits] using hx) (by decide) rfl
theorem step_one (x : Nat) (hx : x < 2 ^ 32) : xorK .u32 ((x / 2 : Nat) : Int) (andK .u32 (IntKind.wrap .u32 (0 - ((x % 2 : Nat) : Int))) 2197175160) = ((cs x : Nat) : Int) := by
  unfold cs
  by_cases h : x % 2 = 1
  · rw [if_pos h, h]
    have e1 : andK .u32 (IntKind.wrap .u32 (0 - ((1 : Nat) : Int))) 2197175160 = 2197175160 := by decide +kernel
    rw [e1]; exact step_poly _ (by omega)
  · rw [if_neg h, show x % 2 = 0 by omega]
    have e1 : andK .u32 (IntKind.wrap .u32 (0 - ((0 : Nat) : Int))) 2197175160 = 0 := by decide +kernel
    rw [e1]
    have := xorK_nat .u32 (x / 2) 0 (by simp only [IntKind.bits]; omega) (by decide) rfl
    simpa using this
theorem step_not (x : Nat) (hx : x < 2 ^ 32) : xorK .u32 (if IntKind.u32.signed = true then -1 else IntKind.u32.max) (x : Int) = ((4294967295 ^^^ x : Nat) : Int) := xorK_nat .u32 4294967295 x (by decide) (by simpa [IntKind.bits] using hx) rfl
def sumInv (H : Heap) (a : Option Addr) (n c : Nat) (bs : List UInt8) (st : St) : Prop :=
  ∃ k : Nat, k ≤ n ∧ st.env 6 = .slice a n c ∧ st.env 7 = .int .i64 n ∧ st.env 8 = .int .i64 k ∧ st.env 3 = .int .u32 (crcS (bs.take k) : Nat) ∧ st.heap = H
def sum8Inv (H : Heap) (a : Option Addr) (n c k x : Nat) (st : St) : Prop :=
  ∃ m : Nat, m ≤ 8 ∧ st.env 6 = .slice a n c ∧ st.env 7 = .int .i64 n ∧ st.env 8 = .int .i64 k ∧ st.env 16 = .int .i64 m ∧ st.env 3 = .int .u32 (csN m x : Nat) ∧ st.heap = H
theorem sum_c (a : Option Addr) (n c : Nat) (bs : List UInt8) (H : Heap) (h : SlA H a n 1 (bs.map u8V)) (hn : n ≤ 140737488351232) :
    ECalls Try.prog 15 #[.slice a n c] H fun r H' => r = .int .u32 (crcN bs : Nat) ∧ H' = H := by
  refine ecalls_of_ewp (args := [_]) Try.func15 rfl rfl rfl (by simp [Try.ntmps15]) (by kernel_rfl) ?_
  have hl : bs.length = n := by simpa using h.len
  simp (disch := first | omega | assumption | decide | (simp <;> omega) | fail) [facts, ]
  refine w_loop (sumInv H a n c bs) (fun s => n - (intOf (s.env 8)).toNat) ?_ ?_
  · exact ⟨0, Nat.zero_le _, by simp, by simp, by simp, by simp [crcS], rfl⟩
  rintro ⟨env, G⟩ ⟨k, hk, e6, e7, e8, e3, hG⟩
  simp only at e6 e7 e8 e3 hG
  subst hG
  by_cases hlt : k < n
  · have hltI : (k : Int) < (n : Int) := by omega
    obtain ⟨x, hx⟩ : ∃ x, bs[k]? = some x := ⟨_, List.getElem?_eq_getElem (by omega)⟩
    obtain ⟨ab, ao, rfl⟩ := h.lit (by omega)
    have gx : rd1U (G ab) (ao + k) = some (.int .u8 x.toNat) := h.at hx
    have hs := crcS_lt (bs.take k)
    have hst := crcS_take hx
    obtain ⟨S, hS⟩ : ∃ S, S = crcS (bs.take k) := ⟨_, rfl⟩
    rw [← hS] at e3 hs hst
    have hxb := x.toNat_lt
    have hxor := step_xor S x hs
    have hxl : S ^^^ x.toNat < 2 ^ 32 := Nat.xor_lt_two_pow hs (by omega)
    simp (disch := first | omega | assumption | decide | (simp <;> omega) | fail) [facts, e6, e7, e8, e3, hltI, gx, hxor]
    refine w_loop (sum8Inv G (some ⟨ab, ao, none⟩) n c k (S ^^^ x.toNat)) (fun s => 8 - (intOf (s.env 16)).toNat) ?_ ?_
    · exact ⟨0, by decide, by simp [e6], by simp [e7], by simp [e8], by simp, by simp [csN], rfl⟩
    clear e6 e7 e8 e3
    rintro ⟨env2, G2⟩ ⟨m, hm, e6, e7, e8, e16, e3, hG2⟩
    simp only at e6 e7 e8 e16 e3 hG2
    subst hG2
    by_cases hm8 : m < 8
    · have hm8I : (m : Int) < 8 := by omega
      have hy := csN_lt m hxl
      have hsucc := csN_succ m (S ^^^ x.toNat)
      obtain ⟨y, hyy⟩ : ∃ y, y = csN m (S ^^^ x.toNat) := ⟨_, rfl⟩
      rw [← hyy] at e3 hy hsucc
      have t1 := step_shr y
      have t2 := step_and y hy
      have t3 := step_one y hy
      simp (disch := first | omega | assumption | decide | (simp <;> omega) | fail) [facts, e6, e7, e8, e16, e3, hm8I, t1, t2]
      refine ⟨_, Heap.le_refl _, ⟨m + 1, by omega, by simp [e6], by simp [e7], by simp [e8], by simp, by rw [hsucc, ← t3]; simp, rfl⟩, by simp [intOf, e16]; omega⟩
    · have hm88 : m = 8 := by omega
      subst hm88
      simp (disch := first | omega | assumption | decide | (simp <;> omega) | fail) [facts, e6, e7, e8, e16, e3]
      refine ⟨_, Heap.le_refl _, ⟨k + 1, by omega, by simp [e6], by simp [e7], by simp, ?_, rfl⟩, by simp [intOf]; omega⟩
      simp [e3]
      rw [hst]; rfl
  · have hkn : k = n := by omega
    subst hkn
    rw [List.take_of_length_le (by omega)] at e3
    have hnot := step_not _ (crcS_lt bs)
    simp (disch := first | omega | assumption | decide | (simp <;> omega) | fail) [facts, e6, e7, e8, e3, hnot]
    try rfl
def crcInv (H : Heap) (a : Option Addr) (n c : Nat) (bs : List UInt8) (st : St) : Prop :=
  ∃ k : Nat, k ≤ n ∧ st.env 0 = .slice a n c ∧ st.env 4 = .int .i64 k ∧ st.env 3 = .int .u32 (crcS (bs.take k) : Nat) ∧ st.heap = H
def crc8Inv (H : Heap) (a : Option Addr) (n c k x : Nat) (st : St) : Prop :=
  ∃ m : Nat, m ≤ 8 ∧ st.env 0 = .slice a n c ∧ st.env 4 = .int .i64 k ∧ st.env 5 = .int .i64 m ∧ st.env 3 = .int .u32 (csN m x : Nat) ∧ st.heap = H
theorem crc_c (a : Option Addr) (n c : Nat) (bs : List UInt8) (H : Heap) (h : SlA H a n 1 (bs.map u8V)) (hn : n ≤ 140737488351232) :
    ECalls Try.prog 16 #[.slice a n c] H fun r H' => r = .int .u32 (crcN bs : Nat) ∧ H' = H := by
  refine ecalls_of_ewp (args := [_]) Try.func16 rfl rfl rfl (by simp [Try.ntmps16]) (by kernel_rfl) ?_
  have hl : bs.length = n := by simpa using h.len
  simp (disch := first | omega | assumption | decide | (simp <;> omega) | fail) [facts, ]
  refine w_loop (crcInv H a n c bs) (fun s => n - (intOf (s.env 4)).toNat) ?_ ?_
  · exact ⟨0, Nat.zero_le _, by simp, by simp, by simp [crcS], rfl⟩
  rintro ⟨env, G⟩ ⟨k, hk, e0, e4, e3, hG⟩
  simp only at e0 e4 e3 hG
  subst hG
  by_cases hlt : k < n
  · have hltI : (k : Int) < (n : Int) := by omega
    obtain ⟨x, hx⟩ : ∃ x, bs[k]? = some x := ⟨_, List.getElem?_eq_getElem (by omega)⟩
    obtain ⟨ab, ao, rfl⟩ := h.lit (by omega)
    have gx : rd1U (G ab) (ao + k) = some (.int .u8 x.toNat) := h.at hx
    have hs := crcS_lt (bs.take k)
    have hst := crcS_take hx
    obtain ⟨S, hS⟩ : ∃ S, S = crcS (bs.take k) := ⟨_, rfl⟩
    rw [← hS] at e3 hs hst
    have hxb := x.toNat_lt
    have hxor := step_xor S x hs
    have hxl : S ^^^ x.toNat < 2 ^ 32 := Nat.xor_lt_two_pow hs (by omega)
    simp (disch := first | omega | assumption | decide | (simp <;> omega) | fail) [facts, e0, e4, e3, hltI, gx, hxor]
    refine w_loop (crc8Inv G (some ⟨ab, ao, none⟩) n c k (S ^^^ x.toNat)) (fun s => 8 - (intOf (s.env 5)).toNat) ?_ ?_
    · exact ⟨0, by decide, by simp [e0], by simp [e4], by simp, by simp [csN], rfl⟩
    clear e0 e4 e3
    rintro ⟨env2, G2⟩ ⟨m, hm, e0, e4, e5, e3, hG2⟩
    simp only at e0 e4 e5 e3 hG2
    subst hG2
    by_cases hm8 : m < 8
    · have hm8I : (m : Int) < 8 := by omega
      have hy := csN_lt m hxl
      have hsucc := csN_succ m (S ^^^ x.toNat)
      obtain ⟨y, hyy⟩ : ∃ y, y = csN m (S ^^^ x.toNat) := ⟨_, rfl⟩
      rw [← hyy] at e3 hy hsucc
      have t1 := step_shr y
      have t2 := step_and y hy
      by_cases h1 : y % 2 = 1
      · have t3 := step_poly (y / 2) (by omega)
        rw [h1] at t2
        obtain ⟨z, hz⟩ : ∃ z, z = y / 2 := ⟨_, rfl⟩
        rw [← hz] at t1 t3
        have hcs : cs y = z ^^^ poly := by unfold cs; rw [if_pos h1, hz]
        rw [hcs] at hsucc
        simp (disch := first | omega | assumption | decide | (simp <;> omega) | fail) [facts, e0, e4, e5, e3, hm8I, t1, t2, t3]
        refine ⟨_, Heap.le_refl _, ⟨m + 1, by omega, by simp [e0], by simp [e4], by simp, by rw [hsucc]; simp, rfl⟩, by simp [intOf, e5]; omega⟩
      · rw [show y % 2 = 0 by omega] at t2
        obtain ⟨z, hz⟩ : ∃ z, z = y / 2 := ⟨_, rfl⟩
        rw [← hz] at t1
        have hcs : cs y = z := by unfold cs; rw [if_neg h1, hz]
        rw [hcs] at hsucc
        simp (disch := first | omega | assumption | decide | (simp <;> omega) | fail) [facts, e0, e4, e5, e3, hm8I, t1, t2]
        refine ⟨_, Heap.le_refl _, ⟨m + 1, by omega, by simp [e0], by simp [e4], by simp, by rw [hsucc]; simp, rfl⟩, by simp [intOf, e5]; omega⟩
    · have hm88 : m = 8 := by omega
      subst hm88
      simp (disch := first | omega | assumption | decide | (simp <;> omega) | fail) [facts, e0, e4, e5, e3]
      refine ⟨_, Heap.le_refl _, ⟨k + 1, by omega, by simp [e0], by simp, ?_, rfl⟩, by simp [intOf]; omega⟩
      simp [e3]
      rw [hst]; rfl
  · have hkn : k = n := by omega
    subst hkn
    rw [List.take_of_length_le (by omega)] at e3
    have hnot := step_not _ (crcS_lt bs)
    simp (disch := first | omega | assumption | decide | (simp <;> omega) | fail) [facts, e0, e4, e3, hnot]
    try rfl
end Go.Proofs.Ytaphlamkpkldgaa.GL
