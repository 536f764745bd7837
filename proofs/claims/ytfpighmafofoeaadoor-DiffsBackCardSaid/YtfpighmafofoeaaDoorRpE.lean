/- Layer 23: a terminal's line: report.line.; Layer 23: report.Cutover: a line of each terminal. -/
import Derived.Test.YtfpighmafofoeaaDoorRpB
import Derived.Test.YtfpighmafofoeaaDoorRpL
import Derived.Test.YtfpighmafofoeaaDoorBqX
import Derived.WalkKit
namespace Go.Proofs.YtfpighmafofoeaaDoor.GL
open Go Go.RowKit
open Su (i64In totV totV_yes totV_no)
open St (Txn txnL txnV zeroT open_c)
set_option maxRecDepth 10000
set_option pp.deepTerms.threshold 8
set_option pp.maxSteps 3000
set_option linter.unusedSimpArgs false
set_option linter.unusedVariables false

def sdP (i : Nat) (t : Txn) : Bool := decide (t.term = (i : Int)) && decide (t.state = 5)
def opP (i : Nat) (t : Txn) : Bool := decide (t.term = (i : Int)) && decide (1 ≤ t.state ∧ t.state ≤ 4)
def sdL (i : Nat) (L : List Txn) : List Txn := L.filter (sdP i)
def opN (i : Nat) (L : List Txn) : Nat := (L.filter (opP i)).length
theorem sdL_snoc {L : List Txn} {k : Nat} {t : Txn} (i : Nat) (h : L[k]? = some t) : sdL i (L.take (k + 1)) = sdL i (L.take k) ++ if sdP i t = true then [t] else [] := by
  unfold sdL
  rw [List.take_add_one, h]
  by_cases hs : sdP i t = true <;> simp [hs]
theorem opN_snoc {L : List Txn} {k : Nat} {t : Txn} (i : Nat) (h : L[k]? = some t) : opN i (L.take (k + 1)) = opN i (L.take k) + if opP i t = true then 1 else 0 := by
  unfold opN
  rw [List.take_add_one, h]
  by_cases hs : opP i t = true <;> simp [hs]
theorem sdL_len (i : Nat) (L : List Txn) : (sdL i L).length ≤ L.length := List.length_filter_le _ _
theorem opN_len (i : Nat) (L : List Txn) : opN i L ≤ L.length := List.length_filter_le _ _
theorem sgZ_sd (i : Nat) (L : List Txn) : sgZ (sdL i L) = (sdL i L).map (·.given) := by
  unfold sgZ sdL
  congr 1
  rw [List.filter_eq_self]
  intro t ht
  have := (List.mem_filter.1 ht).2
  unfold sdP at this
  simp at this
  simp [this.2]
/-- What was settled, in all. -/
def sumZ (i : Nat) (L : List Txn) : Int := ((sdL i L).map (·.given)).sum
/-- A terminal's line. -/
def lineZ (i : Nat) (L : List Txn) (out : Bool) : List UInt8 :=
  Lib.join [84 :: Lib.decDigits i, Lib.decDigits (sdL i L).length, Lib.itoa (sumZ i L), Lib.decDigits (opN i L), if out = true then [49] else [48]] [32] ++ [10]
theorem dec_len {i : Nat} (h : i < 100) : (Lib.decDigits i).length ≤ 2 := by
  by_cases h1 : i < 10
  · rw [Lib.decDigits, dif_pos h1]; simp
  · rw [Lib.decDigits, dif_neg h1, Lib.decDigits, dif_pos (by omega)]; simp
theorem join5 (a b c d e s : List UInt8) : Lib.join [a, b, c, d, e] s = a ++ (s ++ b) ++ (s ++ c) ++ (s ++ d) ++ (s ++ e) := by
  rw [Lib.join_cons]
  simp [Lib.joinTail]
theorem line_len {i : Nat} {L : List Txn} {out : Bool} (hi : i < 100) (hL : L.length < 100) (hs : (Lib.itoa (sumZ i L)).length ≤ 30) : (Lib.join [84 :: Lib.decDigits i, Lib.decDigits (sdL i L).length, Lib.itoa (sumZ i L), Lib.decDigits (opN i L), if out = true then [49] else [48]] [32]).length ≤ 60 := by
  rw [join5]
  have h1 := dec_len hi
  have h2 := dec_len (i := (sdL i L).length) (by have := sdL_len i L; omega)
  have h3 := dec_len (i := opN i L) (by have := opN_len i L; omega)
  have h4 : (if out = true then [49] else [48] : List UInt8).length = 1 := by split <;> rfl
  simp only [List.length_append, List.length_cons, List.length_nil, h4]
  omega
theorem s_add {P : Program} {t : TypeId} (x y : List UInt8) (h : x.length + y.length ≤ 1000000) : qBin P .add t (.string (mkS x)) (.string (mkS y)) = some (.string (mkS (x ++ y))) := by
  simp only [qBin, qStr, mkS_size, mkS_app]
  rw [if_pos (by omega)]
theorem tx_app {H H1 : Heap} {K : Kont} {v : Value} {n b : Nat} {cs : List Value} {t : Txn} (ho : Out H H1 v 11 n cs) (hle : Heap.le H H1) (hb : H1 b = some (.row true 0 (txnL t) 0)) (hn : n ≤ 1000)
    (hK : ∀ v' H', Heap.le H H' → Out H H' v' 11 (n + 1) (cs ++ txnL t) → K v' H') :
    eApp Tryd.prog 33 33 v (.slice (some ⟨b, 0, none⟩) 1 1) H1 K := by
  have hs : SlA H1 (some ⟨b, 0, none⟩) 1 11 (rowsC txnL [t]) := SlA.row hb (Nat.le_refl _) rfl (Nat.le_refl 11) rfl
  have e : rowsC txnL [t] = txnL t := rowsC_single t
  rw [e] at hs
  refine Out.app (e := 40) (s := 11) (nbs := 88) (z := txnV zeroT) (H := H) (m := 1) (ys := txnL t) (by simp [facts]) (by simp [facts]) (by simp [facts]) zeroTx rfl (by decide) hle ho
    (src_sl (e1 := 40) (z := txnV zeroT) (by simp [facts]) (by simp [facts]) zeroTx hs) rfl (tx1 t) (by omega) ?_
  intro v' H' h1 _ h2
  exact hK v' H' h1 h2
def lnInv (H : Heap) (p i : Nat) (a : Option Addr) (n c : Nat) (L : List Txn) (s : St) : Prop :=
  ∃ k : Nat, k ≤ n ∧ s.env 0 = .pointer (some ⟨p, 0, none⟩) ∧ s.env 1 = .int .i64 i ∧ s.env 13 = .slice a n c ∧ s.env 14 = .int .i64 n ∧ s.env 15 = .int .i64 k ∧ s.env 6 = .int .i64 (opN i (L.take k)) ∧ Heap.le H s.heap ∧ ∃ v, s.env 5 = v ∧ Out H s.heap v 11 (sdL i (L.take k)).length (rowsC txnL (sdL i (L.take k)))
set_option maxHeartbeats 1000000 in
theorem line_c (H : Heap) (p : Nat) (fv tv : Value) (m : Nat) (M L : List Txn) (T : List Tm) (i : Nat) (hB : BookR H p fv tv m M T) (hp : M.Perm L) (hL : Sorted L) (hn : L.length < 100) (hT : T.length ≤ 8) (hi : i < 100)
    (hg : ∀ t ∈ L, i64In t.given) (htm : ∀ t ∈ L, 0 ≤ t.term ∧ t.term ≤ 65535) (hs : i64In (sumZ i L)) (hsl : (Lib.itoa (sumZ i L)).length ≤ 30)
    (hF : ∀ G, Heap.le H G → ECalls Tryd.prog 40 #[.int .i64 (sumZ i L), .int .i64 10] G fun v H' => v = .string (mkS (Lib.itoa (sumZ i L))) ∧ H' = G) :
    ECalls Tryd.prog 23 #[.pointer (some ⟨p, 0, none⟩), .int .i64 i] H fun v H' => v = .string (mkS (lineZ i L (match T[i]? with | some x => x.out | none => false))) ∧ Heap.le H H' := by
  refine ecalls_of_ewp (args := [_, _]) Tryd.func23 rfl rfl rfl (by simp [Tryd.ntmps23]) (by kernel_rfl) ?_
  simp (disch := first | omega | assumption | decide | (simp <;> omega) | fail) [facts, ]
  refine (all_c H p fv tv m M L T hB hp hL (by omega)).mono ?_
  rintro v H1 ⟨R, ow, hl⟩
  have hle1 := ow.all
  have hB1 := hB.le hle1
  obtain ⟨a, c, rfl, hsl1, _⟩ := hl.sl ow.le
  have hF1 : ∀ G, Heap.le H1 G → ECalls Tryd.prog 40 #[.int .i64 (sumZ i L), .int .i64 10] G fun v H' => v = .string (mkS (Lib.itoa (sumZ i L))) ∧ H' = G := fun G hG => hF G (Heap.le_trans hle1 hG)
  clear hF hl ow
  obtain ⟨n, hnn⟩ : ∃ n, n = L.length := ⟨_, rfl⟩
  rw [← hnn] at hsl1 hn ⊢
  simp (disch := first | omega | assumption | decide | (simp <;> omega) | fail) [facts, ]
  refine w_loop (lnInv H1 p i a n c L) (fun s => n - (intOf (s.env 15)).toNat) ?_ ?_
  · exact ⟨0, Nat.zero_le _, by simp, by simp, by simp, by simp, by simp, by simp [opN], Heap.le_refl _, .slice none 0 0, by simp, Out.nil _ _ _⟩
  rintro ⟨e, G⟩ ⟨k, hk, e0, e1, e13, e14, e15, e6, hle, v, e5, hout⟩
  simp only at e0 e1 e13 e14 e15 e6 e5 hle hout
  have hsdl : (sdL i (L.take k)).length ≤ k := Nat.le_trans (sdL_len _ _) (by rw [List.length_take]; omega)
  have hopl : opN i (L.take k) ≤ k := Nat.le_trans (opN_len _ _) (by rw [List.length_take]; omega)
  by_cases hlt : k < n
  · have hltI : (k : Int) < (n : Int) := by omega
    obtain ⟨t, ht⟩ : ∃ t, L[k]? = some t := ⟨_, List.getElem?_eq_getElem (by omega)⟩
    obtain ⟨ab, ao, rfl⟩ := hsl1.lit (by omega)
    have rx : rdNU (G ab) (ao + k * 11) 11 = some (txnL t) := (hsl1.le hle).el tx11 ht (j := 0) (r := 11) (by decide) (by decide)
    have htb := htm t (List.mem_of_getElem? ht)
    have hw64 : IntKind.wrap .i64 t.term = t.term := by rw [IntKind.wrap_i64]; omega
    have hst := sdL_snoc i ht
    have hso := opN_snoc i ht
    have co := fun H => open_c t H
    have htv : txnV t = .agg (txnL t).toArray := rfl
    rw [htv] at co
    obtain ⟨tl, htl⟩ : ∃ tl, tl = txnL t := ⟨_, rfl⟩
    rw [← htl] at co rx
    have tl11 : tl.length = 11 := by rw [htl]; rfl
    have tl1 : tl.all (·.oneCell') = true := by rw [htl]; rfl
    have k11 : List.take 11 tl = tl := List.take_of_length_le (by omega)
    have g0 : tl[0]? = some (.int .u16 t.term) := by rw [htl]; rfl
    have g4 : tl[4]? = some (.int .i64 t.state) := by rw [htl]; rfl
    obtain ⟨_, g0b⟩ := List.getElem?_eq_some_iff.1 g0
    obtain ⟨_, g4b⟩ := List.getElem?_eq_some_iff.1 g4
    have hspl : splice [.int .u16 0, .int .u32 0, .string (mkS []), .int .i64 0, .int .i64 0, .int .i64 0, .int .i64 0, .int .i64 0, .int .i64 0, .int .i64 0, .int .i64 0] 0 tl = tl := splice_all (by rw [tl11]; rfl)
    have hspl2 : splice (zeros [.int .u16 0, .int .u32 0, .string (mkS []), .int .i64 0, .int .i64 0, .int .i64 0, .int .i64 0, .int .i64 0, .int .i64 0, .int .i64 0, .int .i64 0] 1) 0 tl = tl := splice_all (by rw [tl11]; rfl)
    simp (disch := first | omega | assumption | decide | (simp <;> omega) | fail) [facts, e13, e14, e15, hltI, rx, k11]
    refine fresh_intro fun b hb => ?_
    have r8 := upd_same G b (.row true 0 tl 0)
    have hout8 := hout.up (le_upd (.row true 0 tl 0) hb)
    have hle8 := Heap.le_trans hle (le_upd (.row true 0 tl 0) hb)
    simp (disch := first | omega | assumption | decide | (simp <;> omega) | fail) [facts, upd_upd, tl11, tl1, hspl]
    generalize upd G b _ = G8 at *
    by_cases hti : t.term = (i : Int)
    · by_cases h5 : t.state = 5
      · have hsd : sdP i t = true := by unfold sdP; simp [hti, h5]
        have hop : ¬ opP i t = true := by unfold opP; simp [h5]
        rw [if_pos hsd] at hst
        rw [if_neg hop, Nat.add_zero] at hso
        simp (disch := first | omega | assumption | decide | (simp <;> omega) | fail) [facts, r8, g0, g0b, hw64, e1, hti, g4, g4b, h5, k11, e5]
        refine fresh_intro fun b32 hb32 => ?_
        simp (disch := first | omega | assumption | decide | (simp <;> omega) | fail) [facts, hspl2, tl11, tl1, upd_upd]
        have r32 := upd_same G8 b32 (.row true 0 tl 0)
        have hout9 := hout8.up (le_upd (.row true 0 tl 0) hb32)
        have hle9 := Heap.le_trans hle8 (le_upd (.row true 0 tl 0) hb32)
        generalize upd G8 b32 _ = G9 at *
        rw [htl] at r32
        refine tx_app hout9 hle9 r32 (by omega) ?_
        intro v2 G4 hle4 hout4
        simp (disch := first | omega | assumption | decide | (simp <;> omega) | fail) [facts, e15]
        refine ⟨_, Heap.le_refl _, ⟨k + 1, by omega, by simp [e0], by simp [e1], by simp [e13], by simp [e14], by simp, by rw [hso]; simp [e6], by simpa using hle4, v2, by simp, ?_⟩, by simp [intOf, e15]; omega⟩
        rw [hst, List.length_append, rowsC_app, rowsC_single]
        exact hout4
      · have hsd : ¬ sdP i t = true := by unfold sdP; simp [h5]
        rw [if_neg hsd, List.append_nil] at hst
        simp (disch := first | omega | assumption | decide | (simp <;> omega) | fail) [facts, r8, g0, g0b, hw64, e1, hti, g4, g4b, h5, k11]
        refine (co G8).mono ?_
        rintro r H2 ⟨rfl, hle2⟩
        have hout2 := hout8.up hle2
        have hle2' := Heap.le_trans hle8 hle2
        by_cases ho : 1 ≤ t.state ∧ t.state ≤ 4
        · have hop : opP i t = true := by unfold opP; simp [hti, ho]
          rw [if_pos hop] at hso
          simp (disch := first | omega | assumption | decide | (simp <;> omega) | fail) [facts, ho, e6, e15]
          refine ⟨_, Heap.le_refl _, ⟨k + 1, by omega, by simp [e0], by simp [e1], by simp [e13], by simp [e14], by simp, by rw [hso]; simp, hle2', v, by simp [e5], by rw [hst]; exact hout2⟩, by simp [intOf, e15]; omega⟩
        · have hop : ¬ opP i t = true := by unfold opP; simp; omega
          rw [if_neg hop, Nat.add_zero] at hso
          simp (disch := first | omega | assumption | decide | (simp <;> omega) | fail) [facts, ho, e15]
          refine ⟨_, Heap.le_refl _, ⟨k + 1, by omega, by simp [e0], by simp [e1], by simp [e13], by simp [e14], by simp, by rw [hso]; simp [e6], hle2', v, by simp [e5], by rw [hst]; exact hout2⟩, by simp [intOf, e15]; omega⟩
    · have hsd : ¬ sdP i t = true := by unfold sdP; simp [hti]
      have hop : ¬ opP i t = true := by unfold opP; simp [hti]
      rw [if_neg hsd, List.append_nil] at hst
      rw [if_neg hop, Nat.add_zero] at hso
      simp (disch := first | omega | assumption | decide | (simp <;> omega) | fail) [facts, r8, g0, g0b, hw64, e1, hti, e15]
      refine ⟨_, Heap.le_refl _, ⟨k + 1, by omega, by simp [e0], by simp [e1], by simp [e13], by simp [e14], by simp, by rw [hso]; simp [e6], hle8, v, by simp [e5], by rw [hst]; exact hout8⟩, by simp [intOf, e15]; omega⟩
  · have hltI : ¬ (k : Int) < (n : Int) := by omega
    have hkn : k = n := by omega
    subst hkn
    have htk : L.take k = L := List.take_of_length_le (by omega)
    rw [htk] at hout hsdl e6 hopl
    obtain ⟨a5, c5, rfl, hsl5⟩ := hout.sl
    have hBG := hB1.le hle
    have hsum : (sgZ (sdL i L)).sum = sumZ i L := by rw [sgZ_sd]; rfl
    have hgs : ∀ t ∈ sdL i L, i64In t.given := fun t ht => hg t (List.mem_filter.1 ht).1
    have cs5 := settled_c a5 _ c5 (sdL i L) G hsl5 hgs (by omega)
    rw [hsum, totV_yes hs] at cs5
    simp (disch := first | omega | assumption | decide | (simp <;> omega) | fail) [facts, e13, e14, e15, hltI, e5]
    refine cs5.mono ?_
    rintro r G2 ⟨rfl, hle2⟩
    have hB2 := hBG.le hle2
    have hw16 : IntKind.wrap .u16 (i : Int) = i := by simp [IntKind.wrap, IntKind.bits, IntKind.signed]; omega
    simp (disch := first | omega | assumption | decide | (simp <;> omega) | fail) [facts, e0, e1, hw16]
    refine (out_c G2 p fv tv m M T hB2 i (by omega) hT).mono ?_
    rintro r G3 ⟨hr, rfl⟩
    obtain ⟨out, hout2⟩ : ∃ out, (match T[i]? with | some x => x.out | none => false) = out := ⟨_, rfl⟩
    rw [hout2]
    replace hr : r = .bool out := hr.trans (congrArg Value.bool hout2)
    subst hr
    have hll := line_len (out := out) hi (by omega : L.length < 100) hsl
    have d1 := dec_len hi
    have hpre := s_add (P := Tryd.prog) (t := 9) [84] (Lib.decDigits i) (by simp; omega)
    have hend := s_add (P := Tryd.prog) (t := 9) (Lib.join [84 :: Lib.decDigits i, Lib.decDigits (sdL i L).length, Lib.itoa (sumZ i L), Lib.decDigits (opN i L), if out = true then [49] else [48]] [32]) [10] (by simp; omega)
    have hlz : lineZ i L out = Lib.join [84 :: Lib.decDigits i, Lib.decDigits (sdL i L).length, Lib.itoa (sumZ i L), Lib.decDigits (opN i L), if out = true then [49] else [48]] [32] ++ [10] := rfl
    have ci := fun H => itoaS_c i hi H
    have cn := fun H => itoaS_c (sdL i L).length (by omega) H
    have co := fun H => itoaS_c (opN i L) (by omega) H
    have cf := hF1 G3 (Heap.le_trans hle hle2)
    have hleH := Heap.le_trans hle1 (Heap.le_trans hle hle2)
    obtain ⟨sm, hsm⟩ : ∃ sm, sumZ i L = sm := ⟨_, rfl⟩
    obtain ⟨sl, hsl'⟩ : ∃ sl, Lib.itoa (sumZ i L) = sl := ⟨_, rfl⟩
    obtain ⟨dn, hdn⟩ : ∃ sl, Lib.decDigits (sdL i L).length = sl := ⟨_, rfl⟩
    obtain ⟨di, hdi⟩ : ∃ sl, Lib.decDigits i = sl := ⟨_, rfl⟩
    obtain ⟨dop, hdo⟩ : ∃ sl, Lib.decDigits (opN i L) = sl := ⟨_, rfl⟩
    rw [hsl', hdn, hdi, hdo] at hend hlz
    rw [hdi] at hpre
    simp only [hdi] at ci
    simp only [hdn] at cn
    simp only [hdo] at co
    rw [hsl', hsm] at cf
    rw [hlz]
    obtain ⟨nn, hnn2⟩ : ∃ nn, (sdL i L).length = nn := ⟨_, rfl⟩
    obtain ⟨no, hno2⟩ : ∃ no, opN i L = no := ⟨_, rfl⟩
    rw [hnn2] at cn
    rw [hno2] at co e6
    cases out with
    | true =>
      simp only [if_true] at hend ⊢
      simp (disch := first | omega | assumption | decide | (simp <;> omega) | fail) [facts, e1]
      refine (ci _).mono ?_
      rintro r G4 ⟨rfl, rfl⟩
      simp (disch := first | omega | assumption | decide | (simp <;> omega) | fail) [facts, hpre, e5, hnn2]
      refine (cn _).mono ?_
      rintro r G5 ⟨rfl, rfl⟩
      simp (disch := first | omega | assumption | decide | (simp <;> omega) | fail) [facts, hsm]
      refine cf.mono ?_
      rintro r G6 ⟨rfl, rfl⟩
      simp (disch := first | omega | assumption | decide | (simp <;> omega) | fail) [facts, e6]
      refine (co _).mono ?_
      rintro r G7 ⟨rfl, rfl⟩
      simp (disch := first | omega | assumption | decide | (simp <;> omega) | fail) [facts, ]
      refine fresh_intro fun b60 hb60 => ?_
      have hj := join_c (H := upd G7 b60 (.row true 0 [.string (mkS ([84] ++ di)), .string (mkS dn), .string (mkS sl), .string (mkS dop), .string (mkS [49])] 0)) (b := b60) (c := 5) (room := 0) (own := true) (xs := [84 :: di, dn, sl, dop, [49]]) (tail := []) [32] (upd_same _ _ _) (by simp) (by simp) (by rw [← hdi, ← hdn, ← hsl', ← hdo]; exact Nat.le_trans hll (by decide))
      simp (disch := first | omega | assumption | decide | (simp <;> omega) | fail) [facts, ]
      refine hj.mono ?_
      rintro r G8 ⟨rfl, rfl⟩
      simp (disch := first | omega | assumption | decide | (simp <;> omega) | fail) [facts, hend]
      exact ⟨_, Heap.le_refl _, Heap.le_trans hleH (le_upd _ hb60)⟩
    | false =>
      simp only [Bool.false_eq_true, if_false] at hend ⊢
      simp (disch := first | omega | assumption | decide | (simp <;> omega) | fail) [facts, e1]
      refine (ci _).mono ?_
      rintro r G4 ⟨rfl, rfl⟩
      simp (disch := first | omega | assumption | decide | (simp <;> omega) | fail) [facts, hpre, e5, hnn2]
      refine (cn _).mono ?_
      rintro r G5 ⟨rfl, rfl⟩
      simp (disch := first | omega | assumption | decide | (simp <;> omega) | fail) [facts, hsm]
      refine cf.mono ?_
      rintro r G6 ⟨rfl, rfl⟩
      simp (disch := first | omega | assumption | decide | (simp <;> omega) | fail) [facts, e6]
      refine (co _).mono ?_
      rintro r G7 ⟨rfl, rfl⟩
      simp (disch := first | omega | assumption | decide | (simp <;> omega) | fail) [facts, ]
      refine fresh_intro fun b60 hb60 => ?_
      have hj := join_c (H := upd G7 b60 (.row true 0 [.string (mkS ([84] ++ di)), .string (mkS dn), .string (mkS sl), .string (mkS dop), .string (mkS [48])] 0)) (b := b60) (c := 5) (room := 0) (own := true) (xs := [84 :: di, dn, sl, dop, [48]]) (tail := []) [32] (upd_same _ _ _) (by simp) (by simp) (by rw [← hdi, ← hdn, ← hsl', ← hdo]; exact Nat.le_trans hll (by decide))
      simp (disch := first | omega | assumption | decide | (simp <;> omega) | fail) [facts, ]
      refine hj.mono ?_
      rintro r G8 ⟨rfl, rfl⟩
      simp (disch := first | omega | assumption | decide | (simp <;> omega) | fail) [facts, hend]
      exact ⟨_, Heap.le_refl _, Heap.le_trans hleH (le_upd _ hb60)⟩
end Go.Proofs.YtfpighmafofoeaaDoor.GL

namespace Go.Proofs.YtfpighmafofoeaaDoor.GL
open Go Go.RowKit Go.Shelf
open Su (i64In)
open St (Txn txnL txnV zeroT)
set_option maxRecDepth 10000
set_option pp.deepTerms.threshold 8
set_option pp.maxSteps 3000
set_option linter.unusedSimpArgs false
set_option linter.unusedVariables false

def outZ (T : List Tm) (i : Nat) : Bool := match T[i]? with | some x => x.out | none => false
/-- What is reported of a book's first terminals. -/
def cutZ (L : List Txn) (T : List Tm) (k : Nat) : List UInt8 := (List.range k).flatMap fun i => lineZ i L (outZ T i)
theorem cutZ_succ (L : List Txn) (T : List Tm) (k : Nat) : cutZ L T (k + 1) = cutZ L T k ++ lineZ k L (outZ T k) := by
  unfold cutZ
  rw [List.range_succ, List.flatMap_append]
  simp
theorem terms_c (H : Heap) (p : Nat) (fv tv : Value) (m : Nat) (M : List Txn) (T : List Tm) (hB : BookR H p fv tv m M T) :
    ECalls Tryd.prog 21 #[.pointer (some ⟨p, 0, none⟩)] H fun v H' => v = .int .i64 T.length ∧ H' = H := by
  refine ecalls_of_ewp (args := [_]) Tryd.func21 rfl rfl rfl (by simp [Tryd.ntmps21]) (by kernel_rfl) ?_
  obtain ⟨a, c, rfl, hs⟩ := terms_at hB.lst
  have hr := hB.row
  simp (disch := first | omega | assumption | decide | (simp <;> omega) | fail) [facts, hr]
theorem Bld.lt {B b : Nat} {l : List UInt8} {w : World} (h : Bld B b l w) : b < w.heap.size := by
  rcases h with h | h
  · exact Lib.BuilderAt.lt h
  · exact Lib.BuilderAt.lt h
theorem Sat.laterB {W0 w w' : World} {H : Heap} {B : Nat} (hs : Sat W0 w H) (hB : Below B w w') (hW : W0.heap.size ≤ B) (hH : ∀ k, B ≤ k → H k = none) : Sat W0 w' H :=
  ⟨hs.below.trans (hB.mono hW), fun b o e => (hs.rep b o e).of_block hB.size (hB.block b (by
    rcases Nat.lt_or_ge b B with h | h
    · exact h
    · rw [hH b h] at e; cases e))⟩
/-- What a book must be for its report. -/
structure CutOk (H : Heap) (L : List Txn) (T : List Tm) : Prop where
  srt : Sorted L
  few : L.length < 100
  trm : T.length ≤ 8
  giv : ∀ t ∈ L, i64In t.given
  ter : ∀ t ∈ L, 0 ≤ t.term ∧ t.term ≤ 65535
  sum : ∀ i, i < T.length → i64In (sumZ i L)
  len : ∀ i, i < T.length → (Lib.itoa (sumZ i L)).length ≤ 30
  fmt : ∀ i, i < T.length → ∀ G, Heap.le H G → ECalls Tryd.prog 40 #[.int .i64 (sumZ i L), .int .i64 10] G fun v H' => v = .string (mkS (Lib.itoa (sumZ i L))) ∧ H' = G
theorem CutOk.line {H : Heap} {L : List Txn} {T : List Tm} (h : CutOk H L T) {i : Nat} (hi : i < T.length) (o : Bool) : (lineZ i L o).length ≤ 61 := by
  unfold lineZ
  rw [List.length_append]
  have := line_len (out := o) (i := i) (by have := h.trm; omega) h.few (h.len i hi)
  simp only [List.length_cons, List.length_nil]
  omega
theorem CutOk.cut {H : Heap} {L : List Txn} {T : List Tm} (h : CutOk H L T) : ∀ {k : Nat}, k ≤ T.length → (cutZ L T k).length ≤ 61 * k
  | 0, _ => by simp [cutZ]
  | k + 1, hk => by
    have h1 := h.cut (k := k) (by omega)
    have h2 := h.line (i := k) (by omega) (outZ T k)
    rw [cutZ_succ, List.length_append]
    omega
set_option maxHeartbeats 2000000 in
theorem cutover_c (H : Heap) (p : Nat) (fv tv : Value) (m : Nat) (M L : List Txn) (T : List Tm) (hB : BookR H p fv tv m M T) (hp : M.Perm L) (hC : CutOk H L T) :
    ECalls Tryd.prog 14 #[.pointer (some ⟨p, 0, none⟩)] H fun v H' => v = .tuple #[.string (mkS (cutZ L T T.length)), .bool true] ∧ H' = H := by
  intro W0 w hs
  have hH : ∀ k, w.heap.size ≤ k → H k = none := fun k hk => by
    cases h : H k with
    | none => rfl
    | some o => exact absurd (hs.rep k o h).lt (by omega)
  have hline : ∀ (i : Nat), i < T.length → ∀ (wr : World) (l : List UInt8), Sat W0 wr H → Bld w.heap.size w.heap.size l wr → Calls Tryd.prog 23 #[.pointer (some ⟨p, 0, none⟩), .int .i64 i] wr fun e w' => e = .returned (.string (mkS (lineZ i L (outZ T i)))) ∧ Sat W0 w' H ∧ Bld w.heap.size w.heap.size l w' := fun i hi wr l h1 h2 => by
    refine (ECalls.beside (K := fun v _ => v = .string (mkS (lineZ i L (outZ T i)))) h1 h2 hH fun G hG => ?_).mono ?_
    · exact line_c G p fv tv m M L T i (hB.le hG) hp hC.srt hC.few hC.trm (by have := hC.trm; omega) hC.giv hC.ter (hC.sum i hi) (hC.len i hi) (fun G' hG' => hC.fmt i hi G' (Heap.le_trans hG hG'))
    · rintro e w' ⟨v, H', rfl, rfl, h3, h4⟩
      exact ⟨rfl, h3, h4⟩
  have hterms : ∀ (wr : World) (l : List UInt8), Sat W0 wr H → Bld w.heap.size w.heap.size l wr → Calls Tryd.prog 21 #[.pointer (some ⟨p, 0, none⟩)] wr fun e w' => e = .returned (.int .i64 T.length) ∧ Sat W0 w' H ∧ Bld w.heap.size w.heap.size l w' := fun wr l h1 h2 => by
    refine (ECalls.beside (K := fun v _ => v = .int .i64 T.length) h1 h2 hH fun G hG => ?_).mono ?_
    · refine (terms_c G p fv tv m M T (hB.le hG)).mono ?_
      rintro v H' ⟨rfl, rfl⟩
      exact ⟨rfl, Heap.le_refl _⟩
    · rintro e w' ⟨v, H', rfl, rfl, h3, h4⟩
      exact ⟨rfl, h3, h4⟩
  go_enter Tryd.func14, Tryd.ntmps14
  go_wp2
  go_loopw [5] (fun v wr => ∃ k : Nat, v = .int .i64 k ∧ k ≤ T.length ∧ Sat W0 wr H ∧ Bld w.heap.size w.heap.size (cutZ L T k) wr) (fun v _ => T.length - (intOf v).toNat)
  case atStart =>
    exact ⟨0, rfl, Nat.zero_le _, hs.later ((Below.refl _ w).alloc (Nat.le_refl _) _), Lib.fresh_isBuilder 65 5 w⟩
  case round =>
    obtain ⟨k, rfl, hk, h1, h2⟩ := hrel
    have hcl := hC.cut hk
    have htr := hC.trm
    by_cases hlt : k < T.length
    · have hltI : (k : Int) < (T.length : Int) := by omega
      have hll := hC.line hlt (outZ T k)
      go_wp2_with (first
        | (go_at_call 21; refine (hterms _ _ h1 h2).mono ?_; rintro e W1 ⟨rfl, a1, a2⟩)
        | (go_at_call 23; refine (hline k hlt _ _ a1 a2).mono ?_; rintro e W2 ⟨rfl, b1, b2⟩)
        | (go_at_call 22; refine (wstr_k _ _ _ _ _ b2 (by omega) (Nat.le_of_lt b2.lt)).mono ?_; rintro e W3 ⟨rfl, c2, cB⟩))
      go_wp2
      go_roundw
      case rel =>
        have hcs := cutZ_succ L T k
        have c3 : Bld w.heap.size w.heap.size (cutZ L T (k + 1)) W3 := by rw [hcs]; exact c2
        clear hcs
        refine ⟨_, _, _, _, _, _, _, _, _, _, _, _, _, _, _, ⟨k + 1, ?_, by omega, b1.laterB cB hs.below.size hH, c3⟩, rfl⟩
        go_num
      case measure =>
        simp [intOf]; omega
    · have hltI : ¬ (k : Int) < (T.length : Int) := by omega
      have hkn : k = T.length := by omega
      subst hkn
      go_wp2_with (first
        | (go_at_call 21; refine (hterms _ _ h1 h2).mono ?_; rintro e W1 ⟨rfl, a1, a2⟩)
        | (go_at_call 24; refine (str_k _ _ _ _ a2 (Nat.le_of_lt a2.lt)).mono ?_; rintro e W2 ⟨rfl, cB⟩))
      go_wp2
      go_ret2
      exact ⟨_, H, rfl, ⟨rfl, rfl⟩, a1.laterB cB hs.below.size hH⟩
end Go.Proofs.YtfpighmafofoeaaDoor.GL
