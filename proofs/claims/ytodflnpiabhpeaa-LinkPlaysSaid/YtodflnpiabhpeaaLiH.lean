/- Layer 26: the walk of LinkAll. -/
import Derived.Test.YtodflnpiabhpeaaLiG
namespace Go.Proofs.Ytodflnpiabhpeaa.GL
open Go Go.RowKit
set_option maxRecDepth 10000
set_option pp.deepTerms.threshold 8
set_option pp.maxSteps 3000
set_option linter.unusedSimpArgs false
set_option linter.unusedVariables false

structure BZ where
  a : Option Addr
  c : Nat
  b : List UInt8
def BZ.v (e : BZ) : Value := .slice e.a e.b.length e.c
theorem BZ_v (e : BZ) : e.v = .slice e.a e.b.length e.c := Eq.trans rfl rfl
theorem bz_list {H : Heap} : ∀ {xs : List Value} {n : Nat}, xs.length = n → (∀ i, i < n → ∃ a' n' c' bs, xs[i]? = some (.slice a' n' c') ∧ n' ≤ c' ∧ ByA H a' n' bs) → ∃ L : List BZ, xs = L.map BZ.v ∧ ∀ e ∈ L, ByA H e.a e.b.length e.b
  | [], _, _, _ => ⟨[], rfl, fun e he => by cases he⟩
  | x :: xs, n, hl, h => by
    obtain ⟨a', n', c', bs, hx, _, hb⟩ := h 0 (by simp at hl; omega)
    have hlen := hb.len
    subst hlen
    simp only [List.getElem?_cons_zero, Option.some.injEq] at hx
    obtain ⟨L, rfl, hL⟩ := bz_list (xs := xs) (n := xs.length) rfl fun i hi => by
      have := h (i + 1) (by simp at hl; omega)
      simpa using this
    refine ⟨⟨a', c', bs⟩ :: L, by rw [hx]; rfl, fun e he => ?_⟩
    rcases List.mem_cons.1 he with rfl | he
    · exact hb
    · exact hL e he
/-- Messages in order, from a number on. -/
def Lined (L : List BZ) : Nat → List MsgZ → Prop
  | _, [] => True
  | k, m :: ms => m.f = k ∧ m.t = -(k : Int) ∧ (∃ e, L[k]? = some e ∧ m.b = e.b) ∧ Lined L (k + 1) ms
theorem Lined.snoc {L : List BZ} {m : MsgZ} : ∀ {ms : List MsgZ} {k : Nat}, Lined L k ms → m.f = ((k + ms.length : Nat) : Int) → m.t = -((k + ms.length : Nat) : Int) → (∃ e, L[k + ms.length]? = some e ∧ m.b = e.b) → Lined L k (ms ++ [m])
  | [], k, _, h1, h2, h3 => ⟨by simpa using h1, by simpa using h2, by simpa using h3, trivial⟩
  | x :: ms, k, h, h1, h2, h3 => by
    obtain ⟨a, b, c, d⟩ := h
    refine ⟨a, b, c, Lined.snoc d ?_ ?_ ?_⟩
    · rw [h1]; simp; omega
    · rw [h2]; simp; omega
    · rw [List.length_cons] at h3; rw [show k + 1 + ms.length = k + (ms.length + 1) by omega]; exact h3

def fillInv (H : Heap) (a : Option Addr) (n c p : Nat) (u : Int) (L : List BZ) (s : St) : Prop :=
  ∃ (i k : Nat) (D : Heap) (ms : List MsgZ), i ≤ n ∧ k ≤ i ∧ s.env 0 = .slice a n c ∧ s.env 1 = .int .u8 u ∧ s.env 5 = .pointer (some ⟨p, 0, none⟩) ∧ s.env 6 = .int .i64 k ∧ s.env 7 = .int .i64 i ∧ Heap.le H D ∧ Net D s.heap p ms ∧ ms.length = i - k ∧ Lined L k ms
def takeInv (H : Heap) (a : Option Addr) (n c p : Nat) (L : List BZ) (s : St) : Prop :=
  ∃ (k : Nat) (D : Heap) (ms : List MsgZ), k ≤ n ∧ s.env 0 = .slice a n c ∧ s.env 5 = .pointer (some ⟨p, 0, none⟩) ∧ s.env 6 = .int .i64 k ∧ Heap.le H D ∧ Net D s.heap p ms ∧ ms.length = n - k ∧ Lined L k ms

set_option maxHeartbeats 4000000 in
theorem linkAll_c (a : Option Addr) (n c : Nat) (L : List BZ) (u : Nat) (H : Heap) (h : SlA H a n 1 (L.map BZ.v)) (hL : ∀ e ∈ L, ByA H e.a e.b.length e.b) (hu : u < 256) :
    ECalls Try.prog 3 #[.slice a n c, .int .u8 u] H fun r _ => r = .bool true := by
  refine ecalls_of_ewp (args := [_, _]) Try.func3 rfl rfl rfl (by simp [Try.ntmps3]) (by kernel_rfl) ?_
  have hlen : L.length = n := by simpa using h.len
  simp (disch := first | omega | assumption | decide | (simp <;> omega) | fail) [facts, ]
  refine (known_c _).mono ?_
  rintro r H1 ⟨rfl, hle1⟩
  by_cases hn : (40 : Int) < (n : Int)
  · simp (disch := first | omega | assumption | decide | (simp <;> omega) | fail) [facts, hn]
    exact ⟨_, Heap.le_refl _⟩
  simp (disch := first | omega | assumption | decide | (simp <;> omega) | fail) [facts, hn]
  refine (netNew_c _).mono ?_
  rintro r H2 ⟨p, rfl, h2⟩
  simp (disch := first | omega | assumption | decide | (simp <;> omega) | fail) [facts, ]
  refine w_loop (fillInv H a n c p u L) (fun s => n - (intOf (s.env 7)).toNat) ?_ ?_
  · exact ⟨0, 0, H1, [], Nat.zero_le _, Nat.le_refl _, by simp, by simp, by simp, by simp, by simp, hle1, h2, rfl, trivial⟩
  clear h2 hle1
  rintro ⟨env, G⟩ ⟨i, k, D, ms, hi, hki, e0, e1, e5, e6, e7, hHD, hnet, hms, hlin⟩
  simp only at e0 e1 e5 e6 e7 hnet
  by_cases hlt : i < n
  · have hltI : (i : Int) < (n : Int) := by omega
    obtain ⟨x, hx⟩ : ∃ x, L[i]? = some x := ⟨_, List.getElem?_eq_getElem (by omega)⟩
    have hxb := hL x (List.mem_of_getElem? hx)
    have hHG := Heap.le_trans hHD hnet.le
    have rx := (h.le hHG).at hx
    rw [BZ_v] at rx
    have ha := h.there (show 0 < n by omega)
    have hp := h.plain
    by_cases h60 : (60 : Int) < (x.b.length : Int)
    · simp (disch := first | omega | assumption | decide | (simp <;> omega) | fail) [facts, e0, e1, e5, e6, e7, hltI, rx, h60]
      exact ⟨_, Heap.le_refl _⟩
    simp (disch := first | omega | assumption | decide | (simp <;> omega) | fail) [facts, e0, e1, e5, e6, e7, hltI, rx, h60]
    refine (netPut_c D _ p ms hnet i (-(i : Int)) x.a x.b.length x.c x.b (hxb.le hHG) (by omega) (by omega)).mono ?_
    rintro v G2 ⟨D2, m, hD2, m1, m2, m3, hnet2, _⟩
    have hlin2 : Lined L k (ms ++ [m]) := hlin.snoc (by rw [m1]; omega) (by rw [m2]; omega) ⟨x, by rw [hms, show k + (i - k) = i by omega]; exact hx, m3⟩
    have hms2 : (ms ++ [m]).length = i + 1 - k := by rw [List.length_append, hms]; simp; omega
    generalize ms ++ [m] = ns at *
    have hHD2 := Heap.le_trans hHD hD2
    by_cases ht : (i : Int) % ((u : Int) % 4 + 1) = 0
    · simp (disch := first | omega | assumption | decide | (simp <;> omega) | fail) [facts, e0, e1, e5, e6, e7, ht]
      cases ns with
      | nil => simp at hms2; omega
      | cons m0 rest =>
        obtain ⟨q1, q2, ⟨e, he, q3⟩, hrest⟩ := hlin2
        refine (netTake_in D2 _ p _ 0 m0 hnet2 rfl (by omega)).mono ?_
        rintro v G3 ⟨rfl, hnet3⟩
        replace hnet3 : Net D2 G3 p rest := hnet3
        unfold msgV
        simp (disch := first | omega | assumption | decide | (simp <;> omega) | fail) [facts, ]
        refine fresh_intro fun b8 hb8 => ?_
        obtain ⟨hnet4, hD4⟩ := hnet3.keep hb8 (.row true 0 [.int .i64 m0.f, .int .i64 m0.t, .slice m0.a m0.b.length m0.c] 0)
        have l8 := upd_same D2 b8 (.row true 0 [.int .i64 m0.f, .int .i64 m0.t, .slice m0.a m0.b.length m0.c] 0)
        have hmb := ((hnet2.data m0 (by simp)).1.le hD4).le hnet4.le
        have hHD4 := Heap.le_trans hHD2 hD4
        simp (disch := first | omega | assumption | decide | (simp <;> omega) | fail) [facts, upd_upd]
        generalize upd D2 b8 (.row true 0 [.int .i64 m0.f, .int .i64 m0.t, .slice m0.a m0.b.length m0.c] 0) = D5 at *
        generalize upd G3 b8 (.row true 0 [.int .i64 m0.f, .int .i64 m0.t, .slice m0.a m0.b.length m0.c] 0) = G5 at *
        replace l8 := hnet4.le _ _ l8
        have hHG5 := Heap.le_trans hHD4 hnet4.le
        have heb := (hL e (List.mem_of_getElem? he)).le hHG5
        have re := (h.le hHG5).at he
        rw [BZ_v] at re
        rw [q1, q2, q3] at l8
        rw [q3] at hmb
        have hkn : k < n := by
          have := (List.getElem?_eq_some_iff.1 he).1
          omega
        have hknI : (k : Int) < (n : Int) := by omega
        have ha := h.there (show 0 < n by omega)
        have hp := h.plain
        refine w_plan (P := Try.prog) (by simp [facts]) (opsP [0,1,2,3,4,5,6,7,8,9,10,11,12,13,14,15,16,17,18,19,20,21,22,23,24,25] .done) ?_ ?_
        · decide +kernel
        simp (disch := first | omega | assumption | decide | (simp <;> omega) | fail) [facts, e0, e1, e5, e6, e7, l8, hknI, re, conv_bytes (P := Try.prog) (el := 5) (by simp [facts]) hmb, conv_by (P := Try.prog) (el := 5) (by simp [facts]) heb, b_neqT]
        exact ⟨_, Heap.le_refl _, ⟨i + 1, k + 1, D5, rest, by omega, by omega, by simp [e0], by simp [e1], by simp [e5], by simp, by simp, hHD4, hnet4, by simp at hms2; omega, hrest⟩, by simp [intOf, e7]; omega⟩
    · simp (disch := first | omega | assumption | decide | (simp <;> omega) | fail) [facts, e0, e1, e5, e6, e7, ht]
      exact ⟨_, Heap.le_refl _, ⟨i + 1, k, D2, ns, by omega, by omega, by simp [e0], by simp [e1], by simp [e5], by simp [e6], by simp, hHD2, hnet2, hms2, hlin2⟩, by simp [intOf, e7]; omega⟩
  · have hin : i = n := by omega
    subst hin
    have hltI : ¬ (i : Int) < (i : Int) := by omega
    simp (disch := first | omega | assumption | decide | (simp <;> omega) | fail) [facts, e0, e1, e5, e6, e7, hltI]
    refine w_loop (takeInv H a i c p L) (fun s => i - (intOf (s.env 6)).toNat) ?_ ?_
    · exact ⟨k, D, ms, hki, by simp [e0], by simp [e5], by simp [e6], hHD, hnet, hms, hlin⟩
    clear e0 e1 e5 e6 e7 hHD hnet hms hlin hki
    rintro ⟨env2, G2⟩ ⟨k, D, ns, hkn0, e0, e5, e6, hHD, hnet, hms2, hlin2⟩
    simp only at e0 e5 e6 hnet
    by_cases hlt2 : k < i
    · have hlt2I : (k : Int) < (i : Int) := by omega
      simp (disch := first | omega | assumption | decide | (simp <;> omega) | fail) [facts, e0, e5, e6, hlt2I]
      cases ns with
      | nil => simp at hms2; omega
      | cons m0 rest =>
        obtain ⟨q1, q2, ⟨e, he, q3⟩, hrest⟩ := hlin2
        refine (netTake_in D _ p _ 0 m0 hnet rfl (by omega)).mono ?_
        rintro v G3 ⟨rfl, hnet3⟩
        replace hnet3 : Net D G3 p rest := hnet3
        unfold msgV
        simp (disch := first | omega | assumption | decide | (simp <;> omega) | fail) [facts, ]
        refine fresh_intro fun b10 hb10 => ?_
        obtain ⟨hnet4, hD4⟩ := hnet3.keep hb10 (.row true 0 [.int .i64 m0.f, .int .i64 m0.t, .slice m0.a m0.b.length m0.c] 0)
        have l8 := upd_same D b10 (.row true 0 [.int .i64 m0.f, .int .i64 m0.t, .slice m0.a m0.b.length m0.c] 0)
        have hmb := ((hnet.data m0 (by simp)).1.le hD4).le hnet4.le
        have hHD4 := Heap.le_trans hHD hD4
        simp (disch := first | omega | assumption | decide | (simp <;> omega) | fail) [facts, upd_upd]
        generalize upd D b10 (.row true 0 [.int .i64 m0.f, .int .i64 m0.t, .slice m0.a m0.b.length m0.c] 0) = D5 at *
        generalize upd G3 b10 (.row true 0 [.int .i64 m0.f, .int .i64 m0.t, .slice m0.a m0.b.length m0.c] 0) = G5 at *
        replace l8 := hnet4.le _ _ l8
        have hHG5 := Heap.le_trans hHD4 hnet4.le
        have heb := (hL e (List.mem_of_getElem? he)).le hHG5
        have re := (h.le hHG5).at he
        rw [BZ_v] at re
        rw [q1, q2, q3] at l8
        rw [q3] at hmb
        have hkn : k < i := by
          have := (List.getElem?_eq_some_iff.1 he).1
          omega
        have hknI : (k : Int) < (i : Int) := by omega
        have ha := h.there (show 0 < i by omega)
        have hp := h.plain
        refine w_plan (P := Try.prog) (by simp [facts]) (opsP [0,1,2,3,4,5,6,7,8,9,10,11,12,13,14,15,16,17,18] .done) ?_ ?_
        · decide +kernel
        simp (disch := first | omega | assumption | decide | (simp <;> omega) | fail) [facts, e0, e5, e6, l8, hknI, re, conv_bytes (P := Try.prog) (el := 5) (by simp [facts]) hmb, conv_by (P := Try.prog) (el := 5) (by simp [facts]) heb, b_neqT]
        exact ⟨_, Heap.le_refl _, ⟨k + 1, D5, rest, by omega, by simp [e0], by simp [e5], by simp, hHD4, hnet4, by simp at hms2; omega, hrest⟩, by simp [intOf, e6]; omega⟩
    · have hki : k = i := by omega
      subst hki
      have hns : ns = [] := List.eq_nil_of_length_eq_zero (by omega)
      subst hns
      simp (disch := first | omega | assumption | decide | (simp <;> omega) | fail) [facts, e0, e5, e6]
      refine (netTake_out D _ p [] 0 hnet (by simp)).mono ?_
      rintro v G3 ⟨rfl, hnet3⟩
      unfold msgV
      simp (disch := first | omega | assumption | decide | (simp <;> omega) | fail) [facts, ]
      refine fresh_intro fun b12 hb12 => ?_
      have hnet4 := hnet3.grow (le_upd (.row true 0 [.int .i64 0, .int .i64 0, .slice none 0 0] 0) hb12)
      simp (disch := first | omega | assumption | decide | (simp <;> omega) | fail) [facts, upd_upd, e0, e5, e6]
      refine (netLen_c D _ p [] hnet4).mono ?_
      rintro v G4 ⟨rfl, rfl⟩
      simp (disch := first | omega | assumption | decide | (simp <;> omega) | fail) [facts, ]
      exact ⟨_, Heap.le_refl _⟩
end Go.Proofs.Ytodflnpiabhpeaa.GL
