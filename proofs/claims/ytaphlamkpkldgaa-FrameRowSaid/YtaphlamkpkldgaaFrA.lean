/- Layer 4: the contracts of Number (as in layer 1). -/
import Derived.Test.YtaphlamkpkldgaaGlT
import Derived.Test.YtaphlamkpkldgaaGlU
import Derived.Test.YtaphlamkpkldgaaGlX
import Derived.Test.YtaphlamkpkldgaaGlY
namespace Go.Proofs.Ytaphlamkpkldgaa.GL
open Go Go.RowKit
set_option maxRecDepth 10000
set_option pp.deepTerms.threshold 8
set_option pp.maxSteps 3000
set_option linter.unusedSimpArgs false
set_option linter.unusedVariables false

def i64In (v : Int) : Prop := -9223372036854775808 ≤ v ∧ v ≤ 9223372036854775807
def numGo : List UInt8 → Nat → Option Nat
  | [], v => some v
  | c :: r, v => if v / 2 ^ 56 ≠ 0 then none else numGo r (v * 256 + c.toNat)
def numB (bs : List UInt8) : Option Nat := numGo bs 0
def numV (o : Option Nat) : Value := match o with
  | some v => .tuple #[.int .u64 v, .bool true]
  | none => .tuple #[.int .u64 0, .bool false]

theorem num_step (v : Nat) (c : UInt8) (h : v < 2 ^ 56) : orK .u64 (shlK .u64 (v : Int) 8) (c.toNat : Int) = ((v * 256 + c.toNat : Nat) : Int) := by
  have hc := c.toNat_lt
  have e : shlK .u64 (v : Int) 8 = ((v * 256 : Nat) : Int) := by
    unfold shlK
    have : (v : Int) * 2 ^ (min (Int.toNat 8) IntKind.u64.bits) = ((v * 256 : Nat) : Int) := by simp [IntKind.bits]
    rw [this]
    exact wrap_nat _ _ (by simp only [IntKind.bits]; omega) rfl
  rw [e, orK_nat _ _ _ (by simp only [IntKind.bits]; omega) (by simp only [IntKind.bits]; omega) rfl]
  have : v * 256 ||| c.toNat = v * 256 + c.toNat := by
    have := Nat.two_pow_add_eq_or_of_lt (i := 8) (b := c.toNat) (by omega) v
    rw [show v * 256 = 2 ^ 8 * v by omega]
    exact this.symm
  rw [this]
theorem shr56 (v : Nat) : shrK .u64 (v : Int) 56 = ((v / 2 ^ 56 : Nat) : Int) := shrK_nat _ _ _ (by decide)

theorem number_c (a : Option Addr) (n c : Nat) (bs : List UInt8) (H : Heap) (h : SlA H a n 1 (bs.map u8V)) (hn : n ≤ 140737488351232) :
    ECalls Try.prog 29 #[.slice a n c] H fun r H' => r = numV (numB bs) ∧ H' = H := by
  refine ecalls_of_ewp (args := [_]) Try.func29 rfl rfl rfl (by simp [Try.ntmps29]) (by kernel_rfl) ?_
  have hl : bs.length = n := by simpa using h.len
  simp (disch := first | omega | assumption | decide | (simp <;> omega) | fail) [facts, ]
  refine w_loop (fun s => ∃ k : Nat, k ≤ n ∧ s.env 7 = .slice a n c ∧ s.env 8 = .int .i64 n ∧ s.env 9 = .int .i64 k ∧ ∃ v : Nat, s.env 4 = .int .u64 v ∧ v < 2 ^ 64 ∧ s.heap = H ∧ numGo (bs.drop k) v = numB bs) (fun s => n - (intOf (s.env 9)).toNat) ?_ ?_
  · exact ⟨0, Nat.zero_le _, by simp, by simp, by simp, 0, by simp, by decide, rfl, rfl⟩
  · rintro ⟨e, H1⟩ ⟨k, hk, e7, e8, e9, v, e4, hv, hH, hgo⟩
    simp only at e7 e8 e9 e4 hH
    subst hH
    by_cases hlt : k < n
    · obtain ⟨x, hx⟩ : ∃ x, bs[k]? = some x := ⟨_, List.getElem?_eq_getElem (by omega)⟩
      have hd : bs.drop k = x :: bs.drop (k + 1) := by
        rw [List.drop_eq_getElem_cons (by omega)]
        congr 1
        rw [List.getElem?_eq_getElem (by omega)] at hx
        exact Option.some.inj hx
      have gx := h.at hx
      rw [u8V_def] at gx
      have px := h.plain
      have tx := h.there (by omega)
      rw [hd] at hgo
      by_cases h56 : v / 2 ^ 56 = 0
      · have hs : shrK .u64 (v : Int) 56 = 0 := by rw [shr56, h56]; rfl
        have hc := x.toNat_lt
        simp (disch := first | omega | assumption | decide | (simp <;> omega) | fail) [facts, e7, e8, e9, e4, hlt, gx, hs]
        rw [num_step v x (by omega)]
        refine ⟨_, Heap.le_refl _, ⟨k + 1, by omega, by simp [e7], by simp [e8], by simp, v * 256 + x.toNat, by simp, by omega, rfl, ?_⟩, by simp [intOf, e9]; omega⟩
        rw [← hgo]; simp only [numGo]; rw [if_neg (by omega)]
      · have hs : ¬ shrK .u64 (v : Int) 56 = 0 := by rw [shr56]; omega
        have hno : numB bs = none := by rw [← hgo]; simp only [numGo]; rw [if_pos h56]
        simp (disch := first | omega | assumption | decide | (simp <;> omega) | fail) [facts, e7, e8, e9, e4, hlt, gx, hs, hno, numV]
    · have hkn : k = n := by omega
      have hno : numB bs = some v := by rw [← hgo, hkn, ← hl, List.drop_length]; rfl
      simp (disch := first | omega | assumption | decide | (simp <;> omega) | fail) [facts, e7, e8, e9, e4, hlt, hno, numV]

theorem numberR_c (a : Option Addr) (n c : Nat) (bs : List UInt8) (H : Heap) (h : SlA H a n 1 (bs.map u8V)) (hn : n ≤ 140737488351232) :
    ECalls Try.prog 35 #[.slice a n c] H fun r H' => r = numV (numB bs) ∧ H' = H := by
  refine ecalls_of_ewp (args := [_]) Try.func35 rfl rfl rfl (by simp [Try.ntmps35]) (by kernel_rfl) ?_
  have hl : bs.length = n := by simpa using h.len
  simp (disch := first | omega | assumption | decide | (simp <;> omega) | fail) [facts, ]
  refine w_loop (fun s => ∃ k : Nat, k ≤ n ∧ s.env 0 = .slice a n c ∧ s.env 5 = .int .i64 k ∧ ∃ v : Nat, s.env 4 = .int .u64 v ∧ v < 2 ^ 64 ∧ s.heap = H ∧ numGo (bs.drop k) v = numB bs) (fun s => n - (intOf (s.env 5)).toNat) ?_ ?_
  · exact ⟨0, Nat.zero_le _, by simp, by simp, 0, by simp, by decide, rfl, rfl⟩
  · rintro ⟨e, H1⟩ ⟨k, hk, e0, e5, v, e4, hv, hH, hgo⟩
    simp only at e0 e5 e4 hH
    subst hH
    by_cases hlt : k < n
    · obtain ⟨x, hx⟩ : ∃ x, bs[k]? = some x := ⟨_, List.getElem?_eq_getElem (by omega)⟩
      have hd : bs.drop k = x :: bs.drop (k + 1) := by
        rw [List.drop_eq_getElem_cons (by omega)]
        congr 1
        rw [List.getElem?_eq_getElem (by omega)] at hx
        exact Option.some.inj hx
      have gx := h.at hx
      rw [u8V_def] at gx
      have px := h.plain
      have tx := h.there (by omega)
      rw [hd] at hgo
      by_cases h56 : v / 2 ^ 56 = 0
      · have hs : shrK .u64 (v : Int) 56 = 0 := by rw [shr56, h56]; rfl
        have hc := x.toNat_lt
        simp (disch := first | omega | assumption | decide | (simp <;> omega) | fail) [facts, e0, e5, e4, hlt, gx, hs]
        rw [num_step v x (by omega)]
        refine ⟨_, Heap.le_refl _, ⟨k + 1, by omega, by simp [e0], by simp, v * 256 + x.toNat, by simp, by omega, rfl, ?_⟩, by simp [intOf, e5]; omega⟩
        rw [← hgo]; simp only [numGo]; rw [if_neg (by omega)]
      · have hs : ¬ shrK .u64 (v : Int) 56 = 0 := by rw [shr56]; omega
        have hno : numB bs = none := by rw [← hgo]; simp only [numGo]; rw [if_pos h56]
        simp (disch := first | omega | assumption | decide | (simp <;> omega) | fail) [facts, e0, e5, e4, hlt, gx, hs, hno, numV]
    · have hkn : k = n := by omega
      have hno : numB bs = some v := by rw [← hgo, hkn, ← hl, List.drop_length]; rfl
      simp (disch := first | omega | assumption | decide | (simp <;> omega) | fail) [facts, e0, e5, e4, hlt, hno, numV]

theorem numGo_lt : ∀ (bs : List UInt8) (v w : Nat), v < 2 ^ 64 → numGo bs v = some w → w < 2 ^ 64
  | [], v, w, h, e => by simp only [numGo, Option.some.injEq] at e; omega
  | c :: r, v, w, h, e => by
    simp only [numGo] at e
    split at e
    · cases e
    · have := c.toNat_lt
      exact numGo_lt r _ w (by omega) e
end Go.Proofs.Ytaphlamkpkldgaa.GL
