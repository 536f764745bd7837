/- Layer 4: Read. -/
import Derived.Test.YtaphlamkpkldgaaFrJ
namespace Go.Proofs.Ytaphlamkpkldgaa.GL
open Go Go.RowKit
set_option maxRecDepth 10000
set_option pp.deepTerms.threshold 8
set_option pp.maxSteps 3000
set_option linter.unusedSimpArgs false
set_option linter.unusedVariables false

def zeroN : NZ := ⟨0, 0, 0, 0⟩
def zeroZ : RZ := ⟨0, 0, 0, ByteArray.empty, 0, zeroN, zeroN, zeroN⟩
def bodyOf (b : List UInt8) (n : Nat) : List UInt8 := (b.drop 2).take n
/-- The record that bytes begin with: how many bytes; an error. -/
def readZ (b : List UInt8) : RZ × Nat × Int :=
  match b with
  | m :: l :: _ =>
    if m.toNat ≠ 165 ∨ b.length < 6 + l.toNat ∨ l.toNat < 36 then (zeroZ, 0, 23) else
    if numN (((bodyOf b l.toNat).drop 35).take 1) ≠ l.toNat - 36 ∨ (recOf (bodyOf b l.toNat)).right = false then (zeroZ, 0, 23) else
    if numN ((b.drop (2 + l.toNat)).take 4) ≠ crcN (bodyOf b l.toNat) then (zeroZ, 0, 24) else (recOf (bodyOf b l.toNat), 6 + l.toNat, 0)
  | _ => (zeroZ, 0, 23)
theorem readZ_short {b : List UInt8} (h : b.length < 2) : readZ b = (zeroZ, 0, 23) := by
  match b with
  | [] => rfl
  | [x] => rfl
  | x :: y :: l => simp at h; omega
theorem bodyOf_len {b : List UInt8} {n : Nat} (h : 2 + n ≤ b.length) : (bodyOf b n).length = n := by
  unfold bodyOf; rw [List.length_take, List.length_drop]; omega
theorem fread_c (a : Option Addr) (n c : Nat) (bs : List UInt8) (H : Heap) (h : SlA H a n 1 (bs.map u8V)) (hc : n ≤ c) (hb : n ≤ 100000) (r : RZ) (k : Nat) (e : Int) (hq : readZ bs = (r, k, e)) :
    ECalls Try.prog 14 #[.slice a n c] H fun v H' => v = .tuple #[.agg #[.int .i64 r.kind, .int .u16 r.t, .int .u32 r.s, .string r.pan, .int .i64 r.am, .int .i64 r.ns.a, .int .i64 r.ns.b, .int .i64 r.ns.c, .int .i64 r.ns.d, .int .i64 r.rs.a, .int .i64 r.rs.b, .int .i64 r.rs.c, .int .i64 r.rs.d, .int .i64 r.ls.a, .int .i64 r.ls.b, .int .i64 r.ls.c, .int .i64 r.ls.d], .int .i64 k, .int .i64 e] ∧ Heap.le H H' := by
  refine ecalls_of_ewp (args := [_]) Try.func14 rfl rfl rfl (by simp [Try.ntmps14]) (by kernel_rfl) ?_
  have hl : bs.length = n := by simpa using h.len
  simp (disch := first | omega | assumption | decide | (simp <;> omega) | fail) [facts, ]
  refine fresh_intro fun b2 hb2 => ?_
  simp (disch := first | omega | assumption | decide | (simp <;> omega) | fail) [facts, upd_upd]
  have hl2 := le_upd (.row true 0 [.int .i64 0, .int .u16 0, .int .u32 0, .string ByteArray.empty, .int .i64 0, .int .i64 0, .int .i64 0, .int .i64 0, .int .i64 0, .int .i64 0, .int .i64 0, .int .i64 0, .int .i64 0, .int .i64 0, .int .i64 0, .int .i64 0, .int .i64 0] 0) hb2
  have hr2 := upd_same H b2 (.row true 0 [.int .i64 0, .int .u16 0, .int .u32 0, .string ByteArray.empty, .int .i64 0, .int .i64 0, .int .i64 0, .int .i64 0, .int .i64 0, .int .i64 0, .int .i64 0, .int .i64 0, .int .i64 0, .int .i64 0, .int .i64 0, .int .i64 0, .int .i64 0] 0)
  generalize upd H b2 (.row true 0 [.int .i64 0, .int .u16 0, .int .u32 0, .string ByteArray.empty, .int .i64 0, .int .i64 0, .int .i64 0, .int .i64 0, .int .i64 0, .int .i64 0, .int .i64 0, .int .i64 0, .int .i64 0, .int .i64 0, .int .i64 0, .int .i64 0, .int .i64 0] 0) = H2 at *
  by_cases h2 : n < 2
  · have h2I : (n : Int) < 2 := by omega
    rw [readZ_short (by omega)] at hq
    cases hq
    simp (disch := first | omega | assumption | decide | (simp <;> omega) | fail) [facts, h2I, hr2, zeroZ, zeroN]
    exact ⟨_, Heap.le_refl _, le_updN hl2 hb2 _⟩
  have h2I : ¬ (n : Int) < 2 := by omega
  obtain ⟨m, l, rest, hbs⟩ : ∃ m l rest, bs = m :: l :: rest := by
    match bs, hl with
    | [], hl => simp at hl; omega
    | [x], hl => simp at hl; omega
    | x :: y :: t, hl => exact ⟨x, y, t, rfl⟩
  have hs2 := h.le hl2
  have g0 : at1 H2 a 0 = some (.int .u8 m.toNat) := (hs2.at (k := 0) (x := m) (by rw [hbs]; rfl))
  have g1 : at1 H2 a 1 = some (.int .u8 l.toNat) := (hs2.at (k := 1) (x := l) (by rw [hbs]; rfl))
  have px := h.plain
  have tx := h.there (by omega)
  have hlb := l.toNat_lt
  have hmb := m.toNat_lt
  have hq2 : (if m.toNat ≠ 165 ∨ n < 6 + l.toNat ∨ l.toNat < 36 then (zeroZ, 0, 23) else
    if numN (((bodyOf bs l.toNat).drop 35).take 1) ≠ l.toNat - 36 ∨ (recOf (bodyOf bs l.toNat)).right = false then (zeroZ, 0, 23) else
    if numN ((bs.drop (2 + l.toNat)).take 4) ≠ crcN (bodyOf bs l.toNat) then (zeroZ, 0, 24) else (recOf (bodyOf bs l.toNat), 6 + l.toNat, (0 : Int))) = (r, k, e) := by
    rw [← hq, hbs]
    unfold readZ
    simp only [← hbs, hl]
  clear hq
  generalize hL : l.toNat = L at *
  by_cases hm : m.toNat = 165
  case neg =>
    have hmI : ¬ (m.toNat : Int) = 165 := by omega
    rw [if_pos (.inl hm)] at hq2
    cases hq2
    simp (disch := first | omega | assumption | decide | (simp <;> omega) | fail) [facts, h2I, hr2, g0, px, tx, hmI, zeroZ, zeroN]
    exact ⟨_, Heap.le_refl _, le_updN hl2 hb2 _⟩
  have hmI : (m.toNat : Int) = 165 := by omega
  by_cases hn6 : n < 6 + L
  case pos =>
    have hnI : (n : Int) < 2 + (L : Int) + 4 := by omega
    rw [if_pos (.inr (.inl hn6))] at hq2
    cases hq2
    simp (disch := first | omega | assumption | decide | (simp <;> omega) | fail) [facts, h2I, hr2, g0, g1, px, tx, hmI, hnI, zeroZ, zeroN]
    exact ⟨_, Heap.le_refl _, le_updN hl2 hb2 _⟩
  have hnI : ¬ (n : Int) < 2 + (L : Int) + 4 := by omega
  have hx := hs2.mid (c := c) (l := 2) (h := 2 + L) (by omega) (by omega) hc
  rw [show 2 + L - 2 = L by omega] at hx
  have hbl := bodyOf_len (b := bs) (n := L) (by omega)
  have hx' : SlA H2 (if c = 2 then a else a.map fun x => x.add 2) L 1 ((bodyOf bs L).map u8V) := hx
  clear hx
  generalize hX : bodyOf bs L = X at *
  have hcI : (2 : Int) + (L : Int) ≤ (c : Int) := by omega
  have e2L : ((2 : Int) + (L : Int)).toNat = 2 + L := by omega
  have e2L' : 2 + L - 2 = L := by omega
  by_cases h36 : L < 36
  case pos =>
    rw [if_pos (.inr (.inr h36))] at hq2
    cases hq2
    simp (disch := first | omega | assumption | decide | (simp <;> omega) | fail) [facts, h2I, hr2, g0, g1, px, tx, hmI, hnI, zeroZ, zeroN, hcI, e2L, e2L']
    refine (fbody_no _ L _ H2 h36).mono ?_
    rintro v H3 ⟨rfl, hl3⟩
    have hr3 := hl3 _ _ hr2
    simp (disch := first | omega | assumption | decide | (simp <;> omega) | fail) [facts, ]
    refine fresh_intro fun b6 hb6 => ?_
    have hl6 := le_upd (.row true 0 [.int .i64 0, .int .u16 0, .int .u32 0, .string ByteArray.empty, .int .i64 0, .int .i64 0, .int .i64 0, .int .i64 0, .int .i64 0, .int .i64 0, .int .i64 0, .int .i64 0, .int .i64 0, .int .i64 0, .int .i64 0, .int .i64 0, .int .i64 0] 0) hb6
    have hr6 := hl6 _ _ hr3
    simp (disch := first | omega | assumption | decide | (simp <;> omega) | fail) [facts, hr6, upd_upd]
    exact ⟨_, Heap.le_refl _, le_updN (Heap.le_trans hl2 (Heap.le_trans hl3 hl6)) hb2 _⟩
  rw [if_neg (by omega)] at hq2
  simp (disch := first | omega | assumption | decide | (simp <;> omega) | fail) [facts, h2I, hr2, g0, g1, px, tx, hmI, hnI, hcI, e2L, e2L']
  refine (fbody_c _ L _ X H2 hx' (by omega) (by omega) (by omega) (recOf X) rfl).mono ?_
  rintro v H3 ⟨rfl, hl3⟩
  have hr3 := hl3 _ _ hr2
  generalize hR : recOf X = R at *
  generalize hB : (decide (numN ((X.drop 35).take 1) = L - 36) && R.right) = B at *
  simp (disch := first | omega | assumption | decide | (simp <;> omega) | fail) [facts, ]
  refine fresh_intro fun b6 hb6 => ?_
  have hl6 := le_upd (.row true 0 [.int .i64 0, .int .u16 0, .int .u32 0, .string ByteArray.empty, .int .i64 0, .int .i64 0, .int .i64 0, .int .i64 0, .int .i64 0, .int .i64 0, .int .i64 0, .int .i64 0, .int .i64 0, .int .i64 0, .int .i64 0, .int .i64 0, .int .i64 0] 0) hb6
  have hr6 := hl6 _ _ hr3
  have h62 : b2 ≠ b6 := ne_of_fresh hb6 hr3
  simp (disch := first | omega | assumption | decide | (simp <;> omega) | fail) [facts, hr6, upd_upd]
  have hl6 := le_upd (.row true 0 [.int .i64 R.kind, .int .u16 R.t, .int .u32 R.s, .string R.pan, .int .i64 R.am, .int .i64 R.ns.a, .int .i64 R.ns.b, .int .i64 R.ns.c, .int .i64 R.ns.d, .int .i64 R.rs.a, .int .i64 R.rs.b, .int .i64 R.rs.c, .int .i64 R.rs.d, .int .i64 R.ls.a, .int .i64 R.ls.b, .int .i64 R.ls.c, .int .i64 R.ls.d] 0) hb6
  have hr6 := hl6 _ _ hr3
  have hq6 := upd_same H3 b6 (.row true 0 [.int .i64 R.kind, .int .u16 R.t, .int .u32 R.s, .string R.pan, .int .i64 R.am, .int .i64 R.ns.a, .int .i64 R.ns.b, .int .i64 R.ns.c, .int .i64 R.ns.d, .int .i64 R.rs.a, .int .i64 R.rs.b, .int .i64 R.rs.c, .int .i64 R.rs.d, .int .i64 R.ls.a, .int .i64 R.ls.b, .int .i64 R.ls.c, .int .i64 R.ls.d] 0)
  generalize upd H3 b6 (.row true 0 [.int .i64 R.kind, .int .u16 R.t, .int .u32 R.s, .string R.pan, .int .i64 R.am, .int .i64 R.ns.a, .int .i64 R.ns.b, .int .i64 R.ns.c, .int .i64 R.ns.d, .int .i64 R.rs.a, .int .i64 R.rs.b, .int .i64 R.rs.c, .int .i64 R.rs.d, .int .i64 R.ls.a, .int .i64 R.ls.b, .int .i64 R.ls.c, .int .i64 R.ls.d] 0) = H6 at *
  have hl06 := Heap.le_trans hl2 (Heap.le_trans hl3 hl6)
  by_cases hok : numN ((X.drop 35).take 1) = L - 36 ∧ R.right = true
  case neg =>
    have hok1 : numN ((X.drop 35).take 1) ≠ L - 36 ∨ R.right = false := by
      by_cases h1 : numN ((X.drop 35).take 1) = L - 36
      · right
        cases h3 : R.right with
        | false => rfl
        | true => exact absurd ⟨h1, h3⟩ hok
      · exact .inl h1
    obtain rfl : B = false := by
      rw [← hB]
      rcases hok1 with h1 | h1 <;> simp [h1]
    rw [if_pos hok1] at hq2
    cases hq2
    simp (disch := first | omega | assumption | decide | (simp <;> omega) | fail) [facts, hr6, zeroZ, zeroN]
    exact ⟨_, Heap.le_refl _, le_updN hl06 hb2 _⟩
  obtain ⟨hok1, hok2⟩ := hok
  rw [if_neg (by simp [hok1, hok2])] at hq2
  obtain rfl : B = true := by rw [← hB]; simp [hok1, hok2]
  have hS := (hs2.mid (c := c) (l := 2 + L) (h := 2 + L + 4) (by omega) (by omega) hc)
  rw [show 2 + L + 4 - (2 + L) = 4 by omega] at hS
  have hcI4 : (2 : Int) + (L : Int) + 4 ≤ (c : Int) := by omega
  have e2L4 : ((2 : Int) + (L : Int) + 4).toNat = 2 + L + 4 := by omega
  have e2L4' : 2 + L + 4 - (2 + L) = 4 := by omega
  have hN := numN_lt (bs := (bs.drop (2 + L)).take 4) (m := 4) (by rw [List.length_take]; omega) (by decide)
  have hC := crcN_lt X
  simp (disch := first | omega | assumption | decide | (simp <;> omega) | fail) [facts, hcI4, e2L4, e2L4', e2L]
  refine (num1_c _ 4 _ ((bs.drop (2 + L)).take 4) H6 (hS.le (Heap.le_trans hl3 hl6)) (by omega)).mono ?_
  rintro v H7 ⟨⟨t, rfl⟩, rfl⟩
  generalize hNq : numN ((bs.drop (2 + L)).take 4) = N at *
  have hNw : IntKind.wrap .u32 (N : Int) = (N : Int) := wr_u32 (by omega) (by omega)
  simp (disch := first | omega | assumption | decide | (simp <;> omega) | fail) [facts, hNw, hcI, e2L, e2L']
  refine (sum_c _ L _ X H7 (hx'.le (Heap.le_trans hl3 hl6)) (by omega)).mono ?_
  rintro v H8 ⟨rfl, rfl⟩
  by_cases hsum : N = crcN X
  · have hsI : (N : Int) = (crcN X : Int) := by omega
    rw [if_neg (by simp [hsum])] at hq2
    cases hq2
    simp (disch := first | omega | assumption | decide | (simp <;> omega) | fail) [facts, hsI, hq6, hr6]
    exact ⟨_, Heap.le_refl _, by omega, le_updN hl06 hb2 _⟩
  · have hsI : ¬ (N : Int) = (crcN X : Int) := by omega
    rw [if_pos hsum] at hq2
    cases hq2
    simp (disch := first | omega | assumption | decide | (simp <;> omega) | fail) [facts, hsI, hq6, hr6, zeroZ, zeroN]
    exact ⟨_, Heap.le_refl _, le_updN hl06 hb2 _⟩
end Go.Proofs.Ytaphlamkpkldgaa.GL
