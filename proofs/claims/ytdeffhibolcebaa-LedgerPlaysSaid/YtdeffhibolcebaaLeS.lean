/- Layer 21: LedgerPlays: acts; both ledgers beside each other. -/
import Derived.Test.YtdeffhibolcebaaLeR
namespace Go.Proofs.Ytdeffhibolcebaa.GL
open Go Go.RowKit Go.MapKept
set_option maxRecDepth 10000
set_option pp.deepTerms.threshold 8
set_option pp.maxSteps 3000
set_option linter.unusedSimpArgs false
set_option linter.unusedVariables false

theorem TwoO.less {F F' A B H : Heap} (t : TwoO F' A B H) (hl : Heap.le F F') : TwoO F A B H :=
  ⟨Heap.le_trans hl t.fle, t.ale, t.ble, fun i x e => t.fa i x (hl i x e), fun i x e => t.fb i x (hl i x e), t.ab⟩
structure A21 where
  w : Nat
  k : Nat
  p : Nat
  a : Int
  v : Int
  s : Nat
def A21.cells (x : A21) : List Value := [.int .u8 x.w, .int .u8 x.k, .int .u8 x.p, .int .i64 x.a, .int .i64 x.v, .int .u16 x.s]
theorem a216 (x : A21) : x.cells.length = 6 := rfl
structure A21.ok (x : A21) : Prop where
  w : x.w < 256
  k : x.k < 256
  p : x.p < 256
  s : x.s < 65536
theorem a21_is {M : Heap} {cs : List Value} (h : Fits M [.int .u8, .int .u8, .int .u8, .int .i64, .int .i64, .int .u16] cs) : ∃ x : A21, x.ok ∧ cs = x.cells := by
  obtain ⟨v0, r0, rfl, ⟨w, rfl, hw⟩, h1⟩ := h.cons
  obtain ⟨v1, r1, rfl, ⟨k, rfl, hk⟩, h2⟩ := h1.cons
  obtain ⟨v2, r2, rfl, ⟨p, rfl, hp⟩, h3⟩ := h2.cons
  obtain ⟨v3, r3, rfl, ⟨a, rfl, _⟩, h4⟩ := h3.cons
  obtain ⟨v4, r4, rfl, ⟨g, rfl, _⟩, h5⟩ := h4.cons
  obtain ⟨v5, r5, rfl, ⟨s, rfl, hs⟩, h6⟩ := h5.cons
  have := h6.nil
  subst this
  have hw' := (u8_wf w).1 hw
  have hk' := (u8_wf k).1 hk
  have hp' := (u8_wf p).1 hp
  have hs' := (u16_wf s).1 hs
  refine ⟨⟨w.toNat, k.toNat, p.toNat, a, g, s.toNat⟩, ⟨by show w.toNat < 256; omega, by show k.toNat < 256; omega, by show p.toNat < 256; omega, by show s.toNat < 65536; omega⟩, ?_⟩
  simp only [A21.cells]
  rw [Int.toNat_of_nonneg hw'.1, Int.toNat_of_nonneg hk'.1, Int.toNat_of_nonneg hp'.1, Int.toNat_of_nonneg hs'.1]
theorem a21s_of {M : Heap} {xs : List Value} {n : Nat} (hl : xs.length = n * 6) (h : ∀ i, i < n → Fits M [.int .u8, .int .u8, .int .u8, .int .i64, .int .i64, .int .u16] ((xs.drop (i * 6)).take 6)) : ∃ L : List A21, xs = rowsC A21.cells L ∧ ∀ x ∈ L, x.ok := by
  obtain ⟨L, e, _, hL⟩ := rows_list a216 hl fun i hi => a21_is (h i hi)
  exact ⟨L, e, hL⟩
/-- Both ledgers, each changed once, in whatever order. -/
structure PI (Fk : Heap) (pa pb fm lm : Nat) (F F' : List Acc) (L L' : List LE) (j1 j2 : Nat) (c : Unit) (g : Nat → Bool) (H : Heap) : Prop where
  is : ∃ A B, TwoO Fk A B H ∧ Led A pa (if g j1 = true then F' else F) (if g j1 = true then L' else L) fm lm ∧ RLed B pb (if g j2 = true then F' else F) (if g j2 = true then L' else L)
section
variable {Fk H H' : Heap} {pa pb fm lm j1 j2 i : Nat} {F F' : List Acc} {L L' : List LE} {c : Unit} {g : Nat → Bool}
theorem PI.init {A B : Heap} (t : TwoO Fk A B H) (a : Led A pa F L fm lm) (b : RLed B pb F L) : PI Fk pa pb fm lm F F' L L' j1 j2 c (fun _ => false) H := ⟨A, B, t, by simpa using a, by simpa using b⟩
theorem PI.keep (h : PI Fk pa pb fm lm F F' L L' j1 j2 c g H) (hl : Heap.le H H') (h1 : j1 ≠ i) (h2 : j2 ≠ i) : PI Fk pa pb fm lm F F' L L' j1 j2 c (setB g i) H' := by
  obtain ⟨A, B, t, a, b⟩ := h.is
  refine ⟨A, B, t.grow hl, ?_, ?_⟩
  · rw [setB_ne h1]; exact a
  · rw [setB_ne h2]; exact b
theorem PI.fle (h : PI Fk pa pb fm lm F F' L L' j1 j2 c g H) : Heap.le Fk H := by
  obtain ⟨A, B, t, _⟩ := h.is
  exact t.fle
theorem PI.fst (h : PI Fk pa pb fm lm F F' L L' j1 j2 c g H) (hg : g j1 = false) (hj : j2 ≠ j1) : ∃ A, Heap.le A H ∧ Led A pa F L fm lm ∧ ∀ H' A', Own H A H' A' → Led A' pa F' L' fm lm → PI Fk pa pb fm lm F F' L L' j1 j2 c (setB g j1) H' := by
  obtain ⟨A, B, t, a, b⟩ := h.is
  rw [hg] at a
  refine ⟨A, t.ale, by simpa using a, fun H' A' ow a' => ⟨A', B, t.left ow, ?_, ?_⟩⟩
  · rw [setB_eq]; simpa using a'
  · rw [setB_ne hj]; exact b
theorem PI.snd (h : PI Fk pa pb fm lm F F' L L' j1 j2 c g H) (hg : g j2 = false) (hj : j1 ≠ j2) : ∃ B, Heap.le B H ∧ RLed B pb F L ∧ ∀ H' B', Own H B H' B' → RLed B' pb F' L' → PI Fk pa pb fm lm F F' L L' j1 j2 c (setB g j2) H' := by
  obtain ⟨A, B, t, a, b⟩ := h.is
  rw [hg] at b
  refine ⟨B, t.ble, by simpa using b, fun H' B' ow b' => ⟨A, B', t.right ow, ?_, ?_⟩⟩
  · rw [setB_ne hj]; exact a
  · rw [setB_eq]; simpa using b'
theorem PI.done (h : PI Fk pa pb fm lm F F' L L' j1 j2 c g H) (h1 : g j1 = true) (h2 : g j2 = true) : ∃ A B, TwoO Fk A B H ∧ Led A pa F' L' fm lm ∧ RLed B pb F' L' := by
  obtain ⟨A, B, t, a, b⟩ := h.is
  rw [h1] at a; rw [h2] at b
  exact ⟨A, B, t, by simpa using a, by simpa using b⟩
end
def pl0Inv (H0 : Heap) (a0 a1 a2 : Option Addr) (n0 c0 n1 c1 n2 c2 : Nat) (ps : List ByteArray) (st : St) : Prop :=
  ∃ (i : Nat) (R : Heap), i ≤ n0 ∧ st.env 0 = .slice a0 n0 c0 ∧ st.env 1 = .slice a1 n1 c1 ∧ st.env 2 = .slice a2 n2 c2 ∧ st.env 8 = .int .i64 i ∧ Own H0 (fun _ => none) st.heap R ∧ LstR R (st.env 7) 1 i ((ps.take i).map .string)
structure PlS (Fr : Heap) (pa pb fm lm m : Nat) (F : List Acc) (L : List LE) (A B : Heap) (H : Heap) : Prop where
  two : TwoO Fr A B H
  a : Led A pa F L fm lm
  b : RLed B pb F L
  wf : WfN m F L
def pl2Inv (Fr : Heap) (a2 : Option Addr) (n2 c2 pa pb fm lm : Nat) (st : St) : Prop :=
  ∃ (i : Nat) (F : List Acc) (L : List LE) (A B : Heap), i ≤ n2 ∧ st.env 2 = .slice a2 n2 c2 ∧ st.env 9 = .pointer (some ⟨pa, 0, none⟩) ∧ st.env 10 = .pointer (some ⟨pb, 0, none⟩) ∧ st.env 11 = .int .i64 i ∧ PlS Fr pa pb fm lm i F L A B st.heap
def pl4Inv (G : Heap) (a2 : Option Addr) (n2 c2 pa pb kb i : Nat) (F : List Acc) (st : St) : Prop :=
  ∃ k, k ≤ F.length ∧ st.env 2 = .slice a2 n2 c2 ∧ st.env 9 = .pointer (some ⟨pa, 0, none⟩) ∧ st.env 10 = .pointer (some ⟨pb, 0, none⟩) ∧ st.env 11 = .int .i64 i ∧ st.env 12 = .pointer (some ⟨kb, 0, none⟩) ∧ st.env 15 = .int .i64 (sumF (F.take k)) ∧ st.env 16 = .int .i64 k ∧ st.heap = G
def pl6Inv (Fr : Heap) (pa pb fm lm m : Nat) (F : List Acc) (L : List LE) (A B : Heap) (st : St) : Prop :=
  ∃ i : Nat, i ≤ 4 ∧ st.env 9 = .pointer (some ⟨pa, 0, none⟩) ∧ st.env 10 = .pointer (some ⟨pb, 0, none⟩) ∧ st.env 17 = .int .u8 i ∧ TwoO Fr A B st.heap
def idD (pan : ByteArray) (F : List Acc) (m : Nat) : Int := match idxF pan (F.drop m) with | some j => ((m + j : Nat) : Int) | none => -1
def pl8Inv (Fr : Heap) (pa pb : Nat) (F : List Acc) (i : Nat) (v : Int) (ok : Bool) (A B : Heap) (st : St) : Prop :=
  ∃ m : Nat, m ≤ F.length ∧ st.env 9 = .pointer (some ⟨pa, 0, none⟩) ∧ st.env 10 = .pointer (some ⟨pb, 0, none⟩) ∧ st.env 17 = .int .u8 i ∧ st.env 18 = .int .i64 v ∧ st.env 19 = .bool ok ∧ st.env 20 = .int .i64 (idD (panS i) F m) ∧ st.env 21 = .int .i64 ((m : Int) - 1) ∧ TwoO Fr A B st.heap
theorem idD_none {pan : ByteArray} {F : List Acc} : idD pan F F.length = -1 := by unfold idD; rw [List.drop_length]; rfl
theorem idD_zero {pan : ByteArray} {F : List Acc} : idD pan F 0 = idI (idxF pan F) := by
  unfold idD idI; rw [List.drop_zero]; cases idxF pan F <;> simp
theorem idD_step {pan : ByteArray} {F : List Acc} {m : Nat} {x : Acc} (hx : F[m]? = some x) : idD pan F m = if x.1 = pan then (m : Int) else idD pan F (m + 1) := by
  have hm := (List.getElem?_eq_some_iff.1 hx).1
  have hd : F.drop m = x :: F.drop (m + 1) := by rw [List.drop_eq_getElem_cons hm, (List.getElem?_eq_some_iff.1 hx).2]
  unfold idD
  rw [hd]
  by_cases h : x.1 = pan
  · rw [if_pos h]; simp [idxF, h]
  · rw [if_neg h]
    simp only [idxF, h, if_false]
    cases idxF pan (F.drop (m + 1)) with
    | none => rfl
    | some j => simp; omega
theorem sumF_take {F : List Acc} {k : Nat} {x : Acc} (hx : F[k]? = some x) : sumF (F.take (k + 1)) = sumF (F.take k) + x.2 := by
  unfold sumF
  rw [List.take_add_one, hx]; simp
theorem sumF_bound {F : List Acc} {B : Int} (hB : 0 ≤ B) (hv : ∀ x ∈ F, 0 ≤ x.2 ∧ x.2 ≤ B) (k : Nat) : 0 ≤ sumF (F.take k) ∧ sumF (F.take k) ≤ k * B := by
  induction k with
  | zero => simp [sumF]
  | succ k ih =>
    cases hx : F[k]? with
    | none =>
      have hl : F.length ≤ k := by simpa using hx
      rw [List.take_of_length_le (by omega)] at ih ⊢
      have e : ((k + 1 : Nat) : Int) * B = k * B + B := by rw [Int.natCast_add, Int.add_mul]; simp
      omega
    | some x =>
      rw [sumF_take hx]
      have := hv x (List.mem_of_getElem? hx)
      have e : ((k + 1 : Nat) : Int) * B = k * B + B := by rw [Int.natCast_add, Int.add_mul]; simp
      omega
end Go.Proofs.Ytdeffhibolcebaa.GL
