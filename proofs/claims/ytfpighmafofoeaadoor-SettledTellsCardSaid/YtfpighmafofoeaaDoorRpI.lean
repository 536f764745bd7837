/- Layer 23: SettledTells: the walk. -/
import Derived.Test.YtfpighmafofoeaaDoorRpG
import Derived.Test.YtfpighmafofoeaaDoorRpK
namespace Go.Proofs.YtfpighmafofoeaaDoor.GL
open Go Go.RowKit
open Su (totV totV_yes totV_no)
open St (Txn txnL txnV)
set_option maxRecDepth 10000
set_option pp.deepTerms.threshold 8
set_option pp.maxSteps 3000
set_option linter.unusedSimpArgs false
set_option linter.unusedVariables false

def stlInv (F : Heap) (a : Option Addr) (n c : Nat) (a1 : Option Addr) (n1 c1 : Nat) (s : St) : Prop :=
  ∃ k : Nat, k ≤ n ∧ s.env 0 = .slice a n c ∧ s.env 1 = .slice a1 n1 c1 ∧ s.env 6 = .int .i64 k ∧ Heap.le F s.heap ∧ ∃ v T, s.env 5 = v ∧ Out F s.heap v 11 k (rowsC txnL T) ∧ T.length = k ∧ ∀ t ∈ T, i64In t.given
def TxS (F : Heap) (v : Value) : Prop := ∃ a n c L, v = .slice a n c ∧ SlA F a n 11 (rowsC txnL L) ∧ n ≤ 1000 ∧ ∀ t ∈ L, i64In t.given
def st2Inv (F : Heap) (b63 : Nat) (s : St) : Prop :=
  ∃ k : Nat, k ≤ 2 ∧ s.env 63 = .slice (some ⟨b63, 0, none⟩) 2 2 ∧ s.env 64 = .int .i64 2 ∧ s.env 65 = .int .i64 k ∧ Heap.le F s.heap
theorem tmod_in (g m : Int) (h : i64In g) (hm : 0 < m) (hm2 : m ≤ 1000000) : i64In (Int.tmod g m) := by
  have h1 := Int.lt_tmod_of_pos g hm
  have h2 := Int.tmod_lt_of_pos g hm
  unfold i64In
  omega
theorem rowsC_u8 : ∀ zs : List UInt8, rowsC (fun y : UInt8 => [u8V y]) zs = zs.map u8V
  | [] => rfl
  | y :: l => by rw [rowsC_cons, rowsC_u8 l]; rfl
set_option maxHeartbeats 2000000 in
theorem settledTells_c (a : Option Addr) (n c : Nat) (L : List Txn) (a1 : Option Addr) (n1 c1 : Nat) (zs : List UInt8) (H : Heap) (h : SlA H a n 11 (rowsC txnL L)) (hL : ∀ t ∈ L, i64In t.given) (h1 : SlA H a1 n1 1 (zs.map u8V)) :
    ECalls Tryd.prog 4 #[.slice a n c, .slice a1 n1 c1] H fun v _ => v = .bool true := by
  refine ecalls_of_ewp (args := [_, _]) Tryd.func4 rfl rfl rfl (by simp [Tryd.ntmps4]) (by kernel_rfl) ?_
  have hlen : L.length = n := h.els tx11 (by decide)
  have hlen1 : zs.length = n1 := by simpa using h1.len
  simp (disch := first | omega | assumption | decide | (simp <;> omega) | fail) [facts, ]
  refine (known23_c H).mono ?_
  rintro v F ⟨rfl, hle1⟩
  replace h := h.le hle1
  replace h1 := h1.le hle1
  by_cases hn : (40 : Int) < (n : Int)
  · simp (disch := first | omega | assumption | decide | (simp <;> omega) | fail) [facts, hn]
    exact ⟨_, Heap.le_refl _⟩
  by_cases hn1 : (n1 : Int) < (n : Int)
  · simp (disch := first | omega | assumption | decide | (simp <;> omega) | fail) [facts, hn, hn1]
    exact ⟨_, Heap.le_refl _⟩
  simp (disch := first | omega | assumption | decide | (simp <;> omega) | fail) [facts, hn, hn1]
  obtain ⟨I, hI⟩ : ∃ I : St → Prop, I = (fun s => s.env 0 = .slice a n c ∧ Heap.le F s.heap ∧ ∃ v, s.env 5 = v ∧ TxS s.heap v) := ⟨_, rfl⟩
  refine w_cutB I ?_ ?_
  · refine w_loop (stlInv F a n c a1 n1 c1) (fun s => n - (intOf (s.env 6)).toNat) ?_ ?_
    · exact ⟨0, Nat.zero_le _, by simp, by simp, by simp, Heap.le_refl _, .slice none 0 0, [], by simp, Out.nil _ _ _, rfl, fun t ht => by cases ht⟩
    rintro ⟨e, G⟩ ⟨k, hk, e0, e1, e6, hle, v, T, e5, hout, hTl, hT⟩
    simp only at e0 e1 e6 e5 hle hout
    by_cases hlt : k < n
    · have hltI : (k : Int) < (n : Int) := by omega
      obtain ⟨t, ht⟩ : ∃ t, L[k]? = some t := ⟨_, List.getElem?_eq_getElem (by omega)⟩
      have htg := hL t (List.mem_of_getElem? ht)
      obtain ⟨x, hx⟩ : ∃ x, zs[k]? = some x := ⟨_, List.getElem?_eq_getElem (by omega)⟩
      obtain ⟨ab, ao, rfl⟩ := h.lit (by omega)
      have rx : ∀ G', Heap.le F G' → rdNU (G' ab) (ao + k * 11) 11 = some (txnL t) := fun G' hl => (h.le hl).el tx11 ht (j := 0) (r := 11) (by decide) (by decide)
      have rg : ∀ G', Heap.le F G' → rd1U (G' ab) (ao + k * 11 + 9) = some (.int .i64 t.given) := fun G' hl => (h.le hl).el1 tx11 ht (j := 9) (by decide)
      obtain ⟨sb, so, rfl⟩ := h1.lit (by omega)
      have gs : ∀ G', Heap.le F G' → rd1U (G' sb) (so + k) = some (.int .u8 x.toNat) := fun G' hl => by
        have hr := rowsC_u8 zs
        have := SlA.el1 (f := fun y : UInt8 => [u8V y]) (s := 1) (fun _ => rfl) (by rw [hr]; exact h1.le hl) hx (j := 0) (by decide)
        simpa using this
      have hx255 : x.toNat < 256 := x.toNat_lt
      obtain ⟨z, hz⟩ : ∃ z : Int, (x.toNat : Int) = z := ⟨_, rfl⟩
      have hz0 : 0 ≤ z ∧ z < 256 := by omega
      obtain ⟨q, hq⟩ : ∃ q : Int, z % 9 = q := ⟨_, rfl⟩
      have hq0 : 0 ≤ q ∧ q < 9 := by omega
      have hwq : IntKind.wrap .i64 q = q := by rw [IntKind.wrap_i64]; omega
      simp only [hz] at gs
      have rxG := rx G hle
      unfold txnL at rxG
      have hspl : splice [.int .u16 0, .int .u32 0, .string (mkS []), .int .i64 0, .int .i64 0, .int .i64 0, .int .i64 0, .int .i64 0, .int .i64 0, .int .i64 0, .int .i64 0] 0 [.int .u16 t.term, .int .u32 t.stan, .string (mkS t.pan), .int .i64 t.amount, .int .i64 t.state, .int .i64 t.n0, .int .i64 t.n1, .int .i64 t.n2, .int .i64 t.n3, .int .i64 t.given, .int .i64 t.owed] = [.int .u16 t.term, .int .u32 t.stan, .string (mkS t.pan), .int .i64 t.amount, .int .i64 t.state, .int .i64 t.n0, .int .i64 t.n1, .int .i64 t.n2, .int .i64 t.n3, .int .i64 t.given, .int .i64 t.owed] := rfl
      simp (disch := first | omega | assumption | decide | (simp <;> omega) | fail) [facts, e0, e6, hltI, rxG]
      refine fresh_intro fun b7 hb7 => ?_
      simp (disch := first | omega | assumption | decide | (simp <;> omega) | fail) [facts, upd_upd, hspl]
      have hsplZ : ∀ st gv : Int, splice (zeros [.int .u16 0, .int .u32 0, .string (mkS []), .int .i64 0, .int .i64 0, .int .i64 0, .int .i64 0, .int .i64 0, .int .i64 0, .int .i64 0, .int .i64 0] 1) 0 [.int .u16 t.term, .int .u32 t.stan, .string (mkS t.pan), .int .i64 t.amount, .int .i64 st, .int .i64 t.n0, .int .i64 t.n1, .int .i64 t.n2, .int .i64 t.n3, .int .i64 gv, .int .i64 t.owed] = [.int .u16 t.term, .int .u32 t.stan, .string (mkS t.pan), .int .i64 t.amount, .int .i64 st, .int .i64 t.n0, .int .i64 t.n1, .int .i64 t.n2, .int .i64 t.n3, .int .i64 gv, .int .i64 t.owed] := fun _ _ => rfl
      have gsA := gs _ (Heap.le_trans hle (le_upd (.row true 0 [.int .u16 t.term, .int .u32 t.stan, .string (mkS t.pan), .int .i64 t.amount, .int .i64 t.state, .int .i64 t.n0, .int .i64 t.n1, .int .i64 t.n2, .int .i64 t.n3, .int .i64 t.given, .int .i64 t.owed] 0) hb7))
      have gsB := gs _ (Heap.le_trans hle (le_upd (.row true 0 [.int .u16 t.term, .int .u32 t.stan, .string (mkS t.pan), .int .i64 t.amount, .int .i64 q, .int .i64 t.n0, .int .i64 t.n1, .int .i64 t.n2, .int .i64 t.n3, .int .i64 t.given, .int .i64 t.owed] 0) hb7))
      have rgB := rg _ (Heap.le_trans hle (le_upd (.row true 0 [.int .u16 t.term, .int .u32 t.stan, .string (mkS t.pan), .int .i64 t.amount, .int .i64 q, .int .i64 t.n0, .int .i64 t.n1, .int .i64 t.n2, .int .i64 t.n3, .int .i64 t.given, .int .i64 t.owed] 0) hb7))
      have rgC := rg _ (Heap.le_trans hle (le_upd (.row true 0 [.int .u16 t.term, .int .u32 t.stan, .string (mkS t.pan), .int .i64 t.amount, .int .i64 5, .int .i64 t.n0, .int .i64 t.n1, .int .i64 t.n2, .int .i64 t.n3, .int .i64 t.given, .int .i64 t.owed] 0) hb7))
      obtain ⟨gm, hgm⟩ : ∃ gm, Int.tmod t.given 100000 = gm := ⟨_, rfl⟩
      have hgmi : i64In gm := by rw [← hgm]; exact tmod_in t.given 100000 htg (by decide) (by decide)
      by_cases h2 : z % 2 = 0
      · simp (disch := first | omega | assumption | decide | (simp <;> omega) | fail) [facts, e1, e6, gsA, hq, hwq, upd_upd, gsB, h2]
        refine w_plan (P := Tryd.prog) (by simp [facts]) (opsP [0,1,2,3,6] (.both (opsP [4,5,7,8,9] .done) (opsP [7,4,5,8,9] .done))) ?_ ?_
        · decide +kernel
        simp (disch := first | omega | assumption | decide | (simp <;> omega) | fail) [facts, e0, e6, rgB, rgC, hltI, upd_upd, hgm]
        try (repeat' apply And.intro)
        all_goals

          refine fresh_intro fun b59 hb59 => ?_
          have hl7 := le_upd (.row true 0 [.int .u16 t.term, .int .u32 t.stan, .string (mkS t.pan), .int .i64 t.amount, .int .i64 5, .int .i64 t.n0, .int .i64 t.n1, .int .i64 t.n2, .int .i64 t.n3, .int .i64 gm, .int .i64 t.owed] 0) hb7
          have hl59 := le_upd (.row true 0 [.int .u16 t.term, .int .u32 t.stan, .string (mkS t.pan), .int .i64 t.amount, .int .i64 5, .int .i64 t.n0, .int .i64 t.n1, .int .i64 t.n2, .int .i64 t.n3, .int .i64 gm, .int .i64 t.owed] 0) hb59
          have hle59 := Heap.le_trans hle (Heap.le_trans hl7 hl59)
          have hout59 := hout.up (Heap.le_trans hl7 hl59)
          simp (disch := first | omega | assumption | decide | (simp <;> omega) | fail) [facts, upd_upd, e5, hsplZ 5 gm]
          have r59 : (upd (upd G b7 (.row true 0 [.int .u16 t.term, .int .u32 t.stan, .string (mkS t.pan), .int .i64 t.amount, .int .i64 5, .int .i64 t.n0, .int .i64 t.n1, .int .i64 t.n2, .int .i64 t.n3, .int .i64 gm, .int .i64 t.owed] 0)) b59 (.row true 0 [.int .u16 t.term, .int .u32 t.stan, .string (mkS t.pan), .int .i64 t.amount, .int .i64 5, .int .i64 t.n0, .int .i64 t.n1, .int .i64 t.n2, .int .i64 t.n3, .int .i64 gm, .int .i64 t.owed] 0)) b59 = some (.row true 0 (txnL { t with state := 5, given := gm }) 0) := upd_same _ _ _
          refine tx_app (t := { t with state := 5, given := gm }) hout59 hle59 r59 (by omega) ?_
          intro v2 G4 hle4 hout4
          simp (disch := first | omega | assumption | decide | (simp <;> omega) | fail) [facts, e6]
          refine ⟨_, Heap.le_refl _, ⟨k + 1, by omega, by simp [e0], by simp [e1], by simp, hle4, v2, T ++ [{ t with state := 5, given := gm }], by simp, by rw [rowsC_app, rowsC_single]; exact hout4, by rw [List.length_append, hTl]; rfl, fun y hy => ?_⟩, by simp [intOf, e6]; omega⟩
          rcases List.mem_append.1 hy with hy | hy
          · exact hT y hy
          · obtain rfl := List.mem_singleton.1 hy
            first | exact htg | exact hgmi

      · simp (disch := first | omega | assumption | decide | (simp <;> omega) | fail) [facts, e1, e6, gsA, hq, hwq, upd_upd, gsB, h2]

        refine fresh_intro fun b59 hb59 => ?_
        have hl7 := le_upd (.row true 0 [.int .u16 t.term, .int .u32 t.stan, .string (mkS t.pan), .int .i64 t.amount, .int .i64 q, .int .i64 t.n0, .int .i64 t.n1, .int .i64 t.n2, .int .i64 t.n3, .int .i64 t.given, .int .i64 t.owed] 0) hb7
        have hl59 := le_upd (.row true 0 [.int .u16 t.term, .int .u32 t.stan, .string (mkS t.pan), .int .i64 t.amount, .int .i64 q, .int .i64 t.n0, .int .i64 t.n1, .int .i64 t.n2, .int .i64 t.n3, .int .i64 t.given, .int .i64 t.owed] 0) hb59
        have hle59 := Heap.le_trans hle (Heap.le_trans hl7 hl59)
        have hout59 := hout.up (Heap.le_trans hl7 hl59)
        simp (disch := first | omega | assumption | decide | (simp <;> omega) | fail) [facts, upd_upd, e5, hsplZ q t.given]
        have r59 : (upd (upd G b7 (.row true 0 [.int .u16 t.term, .int .u32 t.stan, .string (mkS t.pan), .int .i64 t.amount, .int .i64 q, .int .i64 t.n0, .int .i64 t.n1, .int .i64 t.n2, .int .i64 t.n3, .int .i64 t.given, .int .i64 t.owed] 0)) b59 (.row true 0 [.int .u16 t.term, .int .u32 t.stan, .string (mkS t.pan), .int .i64 t.amount, .int .i64 q, .int .i64 t.n0, .int .i64 t.n1, .int .i64 t.n2, .int .i64 t.n3, .int .i64 t.given, .int .i64 t.owed] 0)) b59 = some (.row true 0 (txnL { t with state := q, given := t.given }) 0) := upd_same _ _ _
        refine tx_app (t := { t with state := q, given := t.given }) hout59 hle59 r59 (by omega) ?_
        intro v2 G4 hle4 hout4
        simp (disch := first | omega | assumption | decide | (simp <;> omega) | fail) [facts, e6]
        refine ⟨_, Heap.le_refl _, ⟨k + 1, by omega, by simp [e0], by simp [e1], by simp, hle4, v2, T ++ [{ t with state := q, given := t.given }], by simp, by rw [rowsC_app, rowsC_single]; exact hout4, by rw [List.length_append, hTl]; rfl, fun y hy => ?_⟩, by simp [intOf, e6]; omega⟩
        rcases List.mem_append.1 hy with hy | hy
        · exact hT y hy
        · obtain rfl := List.mem_singleton.1 hy
          first | exact htg | exact tmod_in t.given 100000 htg (by decide) (by decide)

    · have hltI : ¬ (k : Int) < (n : Int) := by omega
      have hkn : k = n := by omega
      subst hkn
      simp (disch := first | omega | assumption | decide | (simp <;> omega) | fail) [facts, e0, e6, hltI]
      subst hI
      obtain ⟨a5, c5, rfl, hsl5⟩ := hout.sl
      exact ⟨by simp [e0], hle, _, e5, a5, k, c5, T, rfl, hsl5, by omega, hT⟩
  · rintro ⟨e, G⟩ hII
    subst hI
    obtain ⟨e0, hle, v, e5, hv⟩ := hII
    simp only at e0 hle e5 hv
    have hv0 : TxS G (.slice a n c) := ⟨a, n, c, L, rfl, h.le hle, by omega, hL⟩
    obtain ⟨a5, n5, c5, T, rfl, hsl5, hn5, hT⟩ := hv
    simp (disch := first | omega | assumption | decide | (simp <;> omega) | fail) [facts, e0, e5]
    refine fresh_intro fun b63 hb63 => ?_
    simp (disch := first | omega | assumption | decide | (simp <;> omega) | fail) [facts, ]
    have r63 := upd_same G b63 (.row true 0 [.slice a n c, .slice a5 n5 c5] 0)
    have hl63 := le_upd (.row true 0 [.slice a n c, .slice a5 n5 c5] 0) hb63
    generalize upd G b63 _ = G1 at *
    refine w_loop (st2Inv G1 b63) (fun s => 2 - (intOf (s.env 65)).toNat) ?_ ?_
    · exact ⟨0, Nat.zero_le _, by simp, by simp, by simp, Heap.le_refl _⟩
    rintro ⟨e, G2⟩ ⟨k, hk, e63, e64, e65, hle2⟩
    simp only at e63 e64 e65 hle2
    by_cases hlt : k < 2
    · have hltI : (k : Int) < 2 := by omega
      obtain ⟨aa, nn, cc, LL, hw, hws, hwn, hwL⟩ : ∃ aa nn cc LL, ([.slice a n c, .slice a5 n5 c5] : List Value)[k]? = some (.slice aa nn cc) ∧ SlA G1 aa nn 11 (rowsC txnL LL) ∧ nn ≤ 1000 ∧ ∀ t ∈ LL, i64In t.given := by
        have hc : k = 0 ∨ k = 1 := by omega
        rcases hc with rfl | rfl
        · exact ⟨a, n, c, L, rfl, h.le (Heap.le_trans hle hl63), by omega, hL⟩
        · exact ⟨a5, n5, c5, T, rfl, hsl5.le hl63, hn5, hT⟩
      have rk : rd1U (G2 b63) k = some (.slice aa nn cc) := by
        rw [hle2 _ _ r63, rd1U_row (Nat.zero_le _), Nat.sub_zero]
        exact hw
      have c1 := fun H hH => settled_c aa nn cc LL H (hws.le hH) hwL hwn
      have c2 := fun H hH => settledR_c aa nn cc LL H (hws.le hH) hwL hwn
      obtain ⟨S, hS⟩ : ∃ S, (sgZ LL).sum = S := ⟨_, rfl⟩
      simp only [hS] at c1 c2
      by_cases hin : i64In S
      · simp only [totV_yes hin] at c1 c2
        simp (disch := first | omega | assumption | decide | (simp <;> omega) | fail) [facts, e63, e64, e65, hltI, rk]
        refine (c1 G2 hle2).mono ?_
        rintro v G3 ⟨rfl, hle3⟩
        simp (disch := first | omega | assumption | decide | (simp <;> omega) | fail) [facts, ]
        refine (c2 G3 (Heap.le_trans hle2 hle3)).mono ?_
        rintro v G4 ⟨rfl, hle4⟩
        simp (disch := first | omega | assumption | decide | (simp <;> omega) | fail) [facts, e65]
        exact ⟨_, Heap.le_refl _, ⟨k + 1, by omega, by simp [e63], by simp [e64], by simp, Heap.le_trans hle2 (Heap.le_trans hle3 hle4)⟩, by simp [intOf, e65]; omega⟩
      · simp only [totV_no hin] at c1 c2
        simp (disch := first | omega | assumption | decide | (simp <;> omega) | fail) [facts, e63, e64, e65, hltI, rk]
        refine (c1 G2 hle2).mono ?_
        rintro v G3 ⟨rfl, hle3⟩
        simp (disch := first | omega | assumption | decide | (simp <;> omega) | fail) [facts, ]
        refine (c2 G3 (Heap.le_trans hle2 hle3)).mono ?_
        rintro v G4 ⟨rfl, hle4⟩
        simp (disch := first | omega | assumption | decide | (simp <;> omega) | fail) [facts, e65]
        exact ⟨_, Heap.le_refl _, ⟨k + 1, by omega, by simp [e63], by simp [e64], by simp, Heap.le_trans hle2 (Heap.le_trans hle3 hle4)⟩, by simp [intOf, e65]; omega⟩
    · have hltI : ¬ (k : Int) < 2 := by omega
      simp (disch := first | omega | assumption | decide | (simp <;> omega) | fail) [facts, e64, e65, hltI]
      exact ⟨_, Heap.le_refl _⟩
end Go.Proofs.YtfpighmafofoeaaDoor.GL
