/- Layer 3: the walk of DiskTorn. -/
import Derived.Test.YtobkfpohdknggaaDiF
namespace Go.Proofs.Ytobkfpohdknggaa.GL
open Go Go.RowKit
set_option maxRecDepth 10000
set_option pp.deepTerms.threshold 8
set_option pp.maxSteps 3000
set_option linter.unusedSimpArgs false
set_option linter.unusedVariables false

def bv (a i : Nat) : UInt8 := UInt8.ofNat ((a + i) % 256 ||| 1)
theorem bv_eq (a i : Nat) : orK .u8 (IntKind.u8.wrap ((a : Int) + (i : Int))) 1 = ((bv a i).toNat : Int) := by
  have h1 : IntKind.u8.wrap ((a : Int) + (i : Int)) = (((a + i) % 256 : Nat) : Int) := by
    simp [IntKind.wrap, IntKind.bits, IntKind.signed]
  rw [h1, show (1 : Int) = ((1 : Nat) : Int) from rfl, orK_nat .u8 _ _ (by simp [IntKind.bits]; omega) (by decide) rfl]
  have h2 : (a + i) % 256 ||| 1 < 256 := Nat.or_lt_two_pow (n := 8) (by omega) (by decide)
  unfold bv
  rw [UInt8.toNat_ofNat', Nat.mod_eq_of_lt h2]
def svT (a i : Nat) : Sec := secOf (List.replicate 64 (bv a i))
theorem svT_get (a i j : Nat) (hj : j < 64) : (svT a i).b[j]? = some (bv a i) := by
  show (((List.replicate 64 (bv a i)) ++ List.replicate 64 0).take 64)[j]? = _
  rw [List.getElem?_take_of_lt hj, List.getElem?_append_left (by simpa using hj), List.getElem?_replicate, if_pos hj]
theorem sec0_get (j : Nat) (hj : j < 64) : (secOf []).b[j]? = some 0 := by
  show (([] ++ List.replicate 64 (0 : UInt8)).take 64)[j]? = _
  rw [List.getElem?_take_of_lt hj, List.nil_append, List.getElem?_replicate, if_pos hj]
def wsT (a k : Nat) : List Wr := (List.range k).map fun i => ⟨i, svT a i⟩
theorem wsT_len (a k : Nat) : (wsT a k).length = k := by simp [wsT]
theorem wsT_succ (a k : Nat) : wsT a (k + 1) = wsT a k ++ [⟨k, svT a k⟩] := by simp [wsT, List.range_succ]
theorem wsT_get (a k i : Nat) (hi : i < k) : (wsT a k)[i]? = some ⟨i, svT a i⟩ := by simp [wsT, hi]
/-- What is there of one sector. -/
def leftT (a : Nat) (ks : List Bool) (last : Int) (t i : Nat) : Sec :=
  if ks.getD i false = true then svT a i else if (i : Int) = last then tornS (secOf []) (svT a i) t else secOf []
theorem crashT (a k : Nat) (ks : List Bool) (last : Int) (t : Nat) (i : Nat) (hi : i < k) : ∀ m, m ≤ k → (crashW ks last t (wsT a k) (List.replicate k (secOf [])) m)[i]? = some (if i < m then leftT a ks last t i else secOf [])
  | 0, _ => by simp [crashW, hi]
  | m + 1, hm => by
    have ih := crashT a k ks last t i hi m (by omega)
    have hlen := crashW_len ks last t (wsT a k) (List.replicate k (secOf [])) m
    rw [List.length_replicate] at hlen
    unfold crashW
    rw [wsT_get a k m (by omega)]
    simp only
    generalize hkm : crashW ks last t (wsT a k) (List.replicate k (secOf [])) m = km at *
    have hkd : km.getD m (secOf []) = secOf [] := by
      have := crashT a k ks last t m (by omega) m (by omega)
      rw [hkm, if_neg (by omega)] at this
      simp [List.getD, this]
    unfold stepW
    rw [hkd]
    by_cases him : i = m
    · subst him
      have hlt : i < km.length := by omega
      rw [show (if i < i + 1 then leftT a ks last t i else secOf []) = leftT a ks last t i from if_pos (by omega)]
      unfold leftT
      by_cases h1 : ks.getD i false = true
      · rw [if_pos h1, if_pos h1, List.getElem?_set_self hlt]
      · rw [if_neg h1, if_neg h1]
        by_cases h2 : (i : Int) = last
        · rw [if_pos h2, if_pos h2, List.getElem?_set_self hlt]
        · rw [if_neg h2, if_neg h2, ih, if_neg (by omega)]
    · have : (i < m + 1) = (i < m) := by simp; omega
      simp only [this]
      split
      · rw [List.getElem?_set_ne (fun e => him e.symm), ih]
      · split
        · rw [List.getElem?_set_ne (fun e => him e.symm), ih]
        · exact ih
/-- A byte of it. -/
theorem leftT_get (a : Nat) (ks : List Bool) (last torn : Int) (i j : Nat) (hj : j < 64) : (leftT a ks last (tornN torn) i).b[j]? = some (if ks.getD i false = true ∨ ((i : Int) = last ∧ (j : Int) < torn) then bv a i else 0) := by
  unfold leftT
  by_cases h1 : ks.getD i false = true
  · rw [if_pos h1, if_pos (.inl h1)]; exact svT_get a i j hj
  · rw [if_neg h1]
    by_cases h2 : (i : Int) = last
    · rw [if_pos h2]
      have ht : tornN torn ≤ 64 := by unfold tornN; omega
      show ((svT a i).b.take (tornN torn) ++ (secOf []).b.drop (tornN torn))[j]? = _
      by_cases h3 : (j : Int) < torn
      · rw [if_pos (.inr ⟨h2, h3⟩), List.getElem?_append_left (by rw [List.length_take, (svT a i).len]; unfold tornN; omega), List.getElem?_take_of_lt (by unfold tornN; omega)]
        exact svT_get a i j hj
      · rw [if_neg (fun h => by rcases h with h | h; exact h1 h; exact h3 h.2)]
        have h4 : ((svT a i).b.take (tornN torn)).length ≤ j := by rw [List.length_take, (svT a i).len]; unfold tornN; omega
        rw [List.getElem?_append_right h4, List.getElem?_drop, List.length_take, (svT a i).len, Nat.min_eq_left ht]
        have h5 : tornN torn ≤ j := by unfold tornN; omega
        rw [show tornN torn + (j - tornN torn) = j by omega]
        exact sec0_get j hj
    · rw [if_neg h2, if_neg (fun h => by rcases h with h | h; exact h1 h; exact h2 h.1)]
      exact sec0_get j hj

def fillL (v : UInt8) (j : Nat) : List UInt8 := List.replicate j v ++ List.replicate (64 - j) 0
theorem fillL_len (v : UInt8) (j : Nat) (h : j ≤ 64) : (fillL v j).length = 64 := by simp [fillL]; omega
theorem fillL_set (v : UInt8) (j : Nat) (h : j < 64) : ((fillL v j).map u8V).set j (.int .u8 (v.toNat : Int)) = (fillL v (j + 1)).map u8V := by
  have h2 : (fillL v j).set j v = fillL v (j + 1) := by
    unfold fillL
    rw [List.set_append_right _ _ (by simp), List.length_replicate, Nat.sub_self, show 64 - j = (64 - (j + 1)) + 1 by omega, List.replicate_succ, List.set_cons_zero, List.replicate_succ' (n := j), List.append_assoc]
    rfl
  rw [← h2, List.map_set]; rfl
theorem fillL_all (v : UInt8) : fillL v 64 = List.replicate 64 v := by simp [fillL]

def torn1Inv (H1 : Heap) (p A k : Nat) (a : Option Addr) (n c : Nat) (ks : List Bool) (torn : Int) (s : St) : Prop :=
  ∃ (i : Nat) (R1 : Heap) (now : List Sec), i ≤ k ∧ s.env 0 = .int .u8 A ∧ s.env 1 = .slice a n c ∧ s.env 2 = .int .i64 torn ∧ s.env 9 = .int .i64 k ∧ s.env 10 = .pointer (some ⟨p, 0, none⟩) ∧ s.env 11 = .int .i64 (lastZ ks i) ∧ s.env 12 = .int .i64 i ∧ Own H1 (fun _ => none) s.heap R1 ∧ Dsk R1 p ⟨List.replicate k (secOf []), now, wsT A i, -1, false⟩
def fillInv3 (G0 : Heap) (bx p A k i : Nat) (a : Option Addr) (n c : Nat) (torn last : Int) (s : St) : Prop :=
  ∃ j : Nat, j ≤ 64 ∧ s.env 0 = .int .u8 A ∧ s.env 1 = .slice a n c ∧ s.env 2 = .int .i64 torn ∧ s.env 9 = .int .i64 k ∧ s.env 10 = .pointer (some ⟨p, 0, none⟩) ∧ s.env 11 = .int .i64 last ∧ s.env 12 = .int .i64 i ∧ s.env 13 = .slice (some ⟨bx, 0, none⟩) 64 64 ∧ s.env 14 = .int .i64 j ∧ s.heap = upd G0 bx (.row true 0 ((fillL (bv A i) j).map u8V) 0)
def torn2Inv (H1 R3 : Heap) (p A k : Nat) (a : Option Addr) (n c : Nat) (ks : List Bool) (torn : Int) (s : St) : Prop :=
  ∃ i : Nat, i ≤ k ∧ s.env 0 = .int .u8 A ∧ s.env 1 = .slice a n c ∧ s.env 2 = .int .i64 torn ∧ s.env 9 = .int .i64 k ∧ s.env 10 = .pointer (some ⟨p, 0, none⟩) ∧ s.env 11 = .int .i64 (lastZ ks k) ∧ s.env 15 = .int .i64 i ∧ Own H1 (fun _ => none) s.heap R3
def torn3Inv (G : Heap) (p A k i : Nat) (x : Value) (a : Option Addr) (n c : Nat) (ks : List Bool) (torn : Int) (s : St) : Prop :=
  ∃ j : Nat, j ≤ 64 ∧ s.heap = G ∧ s.env 0 = .int .u8 A ∧ s.env 1 = .slice a n c ∧ s.env 2 = .int .i64 torn ∧ s.env 9 = .int .i64 k ∧ s.env 10 = .pointer (some ⟨p, 0, none⟩) ∧ s.env 11 = .int .i64 (lastZ ks k) ∧ s.env 15 = .int .i64 i ∧ s.env 16 = x ∧ s.env 18 = .int .i64 j
set_option maxHeartbeats 2000000 in
theorem diskTorn_c (A : Nat) (a : Option Addr) (n c : Nat) (ks : List Bool) (torn : Int) (N : Nat) (H : Heap) (hb : BoA H a n ks) (hA : A < 256) (hN : N < 256) :
    ECalls Try.prog 3 #[.int .u8 A, .slice a n c, .int .i64 torn, .int .u8 N] H fun r _ => r = .bool true := by
  refine ecalls_of_ewp (args := [_, _, _, _]) Try.func3 rfl rfl rfl (by simp [Try.ntmps3]) (by kernel_rfl) ?_
  simp (disch := first | omega | assumption | decide | (simp <;> omega) | fail) [facts, ]
  refine (known3_c H).mono ?_
  rintro v H1 ⟨rfl, hle⟩
  by_cases hn : (20 : Int) < (n : Int)
  · simp (disch := first | omega | assumption | decide | (simp <;> omega) | fail) [facts, hn]
    exact ⟨_, Heap.le_refl _⟩
  obtain ⟨k, hk⟩ : ∃ k : Nat, (N : Int) % 6 + 1 = (k : Int) := ⟨N % 6 + 1, by omega⟩
  have hk6 : 1 ≤ k ∧ k ≤ 6 := by omega
  simp (disch := first | omega | assumption | decide | (simp <;> omega) | fail) [facts, hn, hk]
  refine (diskNew_c H1 k).mono ?_
  rintro v H2 ⟨p, R1, rfl, ow1, d1⟩
  rw [show (min (max (k : Int) 0) 4096).toNat = k by omega] at d1
  simp (disch := first | omega | assumption | decide | (simp <;> omega) | fail) [facts, ]
  refine w_loop (torn1Inv H1 p A k a n c ks torn) (fun s => k - (intOf (s.env 12)).toNat) ?_ ?_
  · exact ⟨0, R1, _, Nat.zero_le _, by simp, by simp, by simp, by simp, by simp, by simp [lastZ], by simp, ow1, d1⟩
  clear ow1 d1
  rintro ⟨env, G⟩ ⟨i, R1, now, hi, e0, e1, e2, e9, e10, e11, e12, ow1, d1⟩
  simp only at e0 e1 e2 e9 e10 e11 e12 ow1
  by_cases hlt : i < k
  · have hltI : (i : Int) < (k : Int) := by omega
    simp (disch := first | omega | assumption | decide | (simp <;> omega) | fail) [facts, e0, e1, e2, e9, e10, e11, e12, hltI]
    refine fresh_intro fun bx hbx => ?_
    simp (disch := first | omega | assumption | decide | (simp <;> omega) | fail) [facts, e0, e1, e2, e9, e10, e11, e12, hltI]
    refine w_loop (fillInv3 G bx p A k i a n c torn (lastZ ks i)) (fun s => 64 - (intOf (s.env 14)).toNat) ?_ ?_
    · exact ⟨0, by decide, by simp [e0], by simp [e1], by simp [e2], by simp [e9], by simp [e10], by simp [e11], by simp [e12], by simp, by simp, rfl⟩
    clear e0 e1 e2 e9 e10 e11 e12
    rintro ⟨env, G2⟩ ⟨j, hj, e0, e1, e2, e9, e10, e11, e12, e13, e14, hG⟩
    simp only at e0 e1 e2 e9 e10 e11 e12 e13 e14 hG
    subst hG
    by_cases hj64 : j < 64
    · have hjI : (j : Int) < 64 := by omega
      have hl64 := fillL_len (bv A i) j hj
      simp (disch := first | omega | assumption | decide | (simp <;> omega) | fail) [facts, e0, e1, e2, e9, e10, e11, e12, e13, e14, hjI, bv_eq, hl64, fillL_set, upd_upd]
      exact ⟨_, Heap.le_refl _, ⟨j + 1, by omega, by simp [e0], by simp [e1], by simp [e2], by simp [e9], by simp [e10], by simp [e11], by simp [e12], by simp [e13], by simp, rfl⟩, by simp [intOf]; omega⟩
    · have hje : j = 64 := by omega
      subst hje
      have lx := upd_same G bx (.row true 0 ((fillL (bv A i) 64).map u8V) 0)
      have ow2 := ow1.grow (le_upd (.row true 0 ((fillL (bv A i) 64).map u8V) 0) hbx)
      have nx := ow1.fresh hbx
      rw [fillL_all] at lx ow2 ⊢
      generalize upd G bx (.row true 0 ((List.replicate 64 (bv A i)).map u8V) 0) = G3 at *
      simp (disch := first | omega | assumption | decide | (simp <;> omega) | fail) [facts, e0, e1, e2, e9, e10, e11, e12, e13, e14]
      refine (diskWrite_c ow2.le d1 (oneH_le lx) (oneH_off nx) i (a := some ⟨bx, 0, none⟩) (n := 64) (bs := List.replicate 64 (bv A i)) (.inl (SlA.row (upd_same _ _ _) (Nat.le_refl _) (by rw [List.length_map, List.length_replicate]) (by rw [List.length_map, List.length_replicate]; decide) (by rw [Nat.sub_self, List.drop_zero]; exact List.take_of_length_le (by rw [List.length_map, List.length_replicate]; decide)))) (by decide) (by simp [wsT_len]; omega)).mono ?_
      rintro v H3 ⟨rfl, R3, ow3, d3⟩
      replace ow3 := ow2.trans ow3
      have hz : outZ ⟨List.replicate k (secOf []), now, wsT A i, -1, false⟩ i = 0 := by simp [outZ]; omega
      have hw0 : writeE ⟨List.replicate k (secOf []), now, wsT A i, -1, false⟩ i = 0 := by unfold writeE; rw [hz]; rfl
      rw [hw0]
      replace d3 : Dsk R3 p ⟨List.replicate k (secOf []), now.set i (svT A i), wsT A (i + 1), -1, false⟩ := by
        unfold writeD at d3
        rw [hz, if_neg (by decide), if_neg (by simp [powZ])] at d3
        rw [wsT_succ]
        exact d3
      by_cases hin : i < n
      · have hinI : ¬ (n : Int) ≤ (i : Int) := by omega
        have hsb := (((hb.le hle).sl (by omega)).le ow3.all)
        obtain ⟨bk, bo, rfl⟩ := hsb.lit (by omega)
        have rb := hsb.at (getD_lt hb.len hin)
        rw [at1_lit] at rb
        cases hkb : ks.getD i false with
        | true =>
          rw [hkb] at rb
          have hl : lastZ ks (i + 1) = lastZ ks i := by show (if ks.getD i false = true then lastZ ks i else (i : Int)) = _; rw [if_pos hkb]
          simp (disch := first | omega | assumption | decide | (simp <;> omega) | fail) [facts, e0, e1, e2, e9, e10, e11, e12, hinI, rb]
          exact ⟨_, Heap.le_refl _, ⟨i + 1, R3, _, by omega, by simp [e0], by simp [e1], by simp [e2], by simp [e9], by simp [e10], by simp [e11, hl], by simp, ow3, d3⟩, by simp [intOf]; omega⟩
        | false =>
          rw [hkb] at rb
          have hl : lastZ ks (i + 1) = i := by show (if ks.getD i false = true then lastZ ks i else (i : Int)) = _; rw [if_neg (by rw [hkb]; decide)]
          simp (disch := first | omega | assumption | decide | (simp <;> omega) | fail) [facts, e0, e1, e2, e9, e10, e11, e12, hinI, rb]
          exact ⟨_, Heap.le_refl _, ⟨i + 1, R3, _, by omega, by simp [e0], by simp [e1], by simp [e2], by simp [e9], by simp [e10], by simp [hl], by simp, ow3, d3⟩, by simp [intOf]; omega⟩
      · have hinI : (n : Int) ≤ (i : Int) := by omega
        have hl : lastZ ks (i + 1) = i := by show (if ks.getD i false = true then lastZ ks i else (i : Int)) = _; rw [if_neg (by rw [getD_ge hb.len hin]; decide)]
        simp (disch := first | omega | assumption | decide | (simp <;> omega) | fail) [facts, e0, e1, e2, e9, e10, e11, e12, hinI]
        exact ⟨_, Heap.le_refl _, ⟨i + 1, R3, _, by omega, by simp [e0], by simp [e1], by simp [e2], by simp [e9], by simp [e10], by simp [hl], by simp, ow3, d3⟩, by simp [intOf]; omega⟩
  · have hik : k = i := by omega
    subst hik
    simp (disch := first | omega | assumption | decide | (simp <;> omega) | fail) [facts, e0, e1, e2, e9, e10, e11, e12]
    refine (diskReopen_c ow1.le d1 ow1.all ow1.off (hb.le hle) torn (by omega) (by simp [wsT_len]; omega)).mono ?_
    rintro v H3 ⟨R3, ow3, d3⟩
    replace ow3 := ow1.trans ow3
    generalize hst : reopenZ ⟨List.replicate k (secOf []), now, wsT A k, -1, false⟩ ks torn = st at d3
    have hdn : st.down = false := by rw [← hst]; rfl
    have hnow : ∀ i, i < k → st.now[i]? = some (leftT A ks (lastZ ks k) (tornN torn) i) := fun i hi => by
      rw [← hst]
      unfold reopenZ
      simp only [wsT_len]
      rw [crashT A k ks _ _ i hi k (Nat.le_refl _), if_pos hi]
    clear hst
    simp (disch := first | omega | assumption | decide | (simp <;> omega) | fail) [facts, e0, e1, e2, e9, e10, e11, e12]
    refine w_loop (torn2Inv H1 R3 p A k a n c ks torn) (fun s => k - (intOf (s.env 15)).toNat) ?_ ?_
    · exact ⟨0, Nat.zero_le _, by simp [e0], by simp [e1], by simp [e2], by simp [e9], by simp [e10], by simp [e11], by simp, ow3⟩
    clear e0 e1 e2 e9 e10 e11 e12 ow3
    rintro ⟨env, G⟩ ⟨i, hi, e0, e1, e2, e9, e10, e11, e15, ow3⟩
    simp only at e0 e1 e2 e9 e10 e11 e15 ow3
    by_cases hlt : i < k
    · have hltI : (i : Int) < (k : Int) := by omega
      simp (disch := first | omega | assumption | decide | (simp <;> omega) | fail) [facts, e0, e1, e2, e9, e10, e11, e15, hltI]
      refine (diskRead_in ow3.le d3 i hdn (hnow i hlt)).mono ?_
      rintro v H6 ⟨hle6, a1, c1, rfl, out1⟩
      obtain ⟨_, _, e, sl1⟩ := out1.sl
      simp only [Value.slice.injEq] at e
      obtain ⟨rfl, _, rfl⟩ := e
      have ow6 := ow3.grow hle6
      obtain ⟨q1, o1, rfl⟩ := sl1.lit (by decide)
      simp (disch := first | omega | assumption | decide | (simp <;> omega) | fail) [facts, e0, e1, e2, e9, e10, e11, e15]
      refine w_loop (torn3Inv H6 p A k i (.slice (some ⟨q1, o1, none⟩) 64 c1) a n c ks torn) (fun s => 64 - (intOf (s.env 18)).toNat) ?_ ?_
      · exact ⟨0, by decide, rfl, by simp [e0], by simp [e1], by simp [e2], by simp [e9], by simp [e10], by simp [e11], by simp [e15], by simp, by simp⟩
      clear e0 e1 e2 e9 e10 e11 e15
      rintro ⟨env, G2⟩ ⟨j, hj, hG, e0, e1, e2, e9, e10, e11, e15, e16, e18⟩
      simp only at hG e0 e1 e2 e9 e10 e11 e15 e16 e18
      subst hG
      by_cases hj64 : j < 64
      · have hjI : (j : Int) < 64 := by omega
        have rj := sl1.get j (by omega)
        rw [Sec.cells, List.getElem?_map, leftT_get A ks _ torn i j hj64, at1_lit] at rj
        simp only [Option.map_some, u8V_def] at rj
        simp (disch := first | omega | assumption | decide | (simp <;> omega) | fail) [facts, e0, e1, e2, e9, e10, e11, e15, e16, e18, hjI]
        generalize hwb : (if ks.getD i false = true ∨ ((i : Int) = lastZ ks k ∧ (j : Int) < torn) then bv A i else 0) = wb at rj
        obtain ⟨I, hI⟩ : ∃ I : St → Prop, I = (fun s => s.heap = G2 ∧ s.env 0 = .int .u8 A ∧ s.env 1 = .slice a n c ∧ s.env 2 = .int .i64 torn ∧ s.env 9 = .int .i64 k ∧ s.env 10 = .pointer (some ⟨p, 0, none⟩) ∧ s.env 11 = .int .i64 (lastZ ks k) ∧ s.env 15 = .int .i64 i ∧ s.env 16 = .slice (some ⟨q1, o1, none⟩) 64 c1 ∧ s.env 18 = .int .i64 j ∧ s.env 19 = .int .u8 wb.toNat) := ⟨_, rfl⟩
        refine gd_cut I ?_ ?_
        · by_cases hkb : ks.getD i false = true
          · have hin : i < n := by
              rcases Nat.lt_or_ge i n with h0 | h0
              · exact h0
              · rw [getD_ge hb.len (by omega)] at hkb; cases hkb
            have hsb := (((hb.le hle).sl (by omega)).le ow6.all)
            obtain ⟨bk, bo, rfl⟩ := hsb.lit (by omega)
            have rb := hsb.at (getD_lt hb.len hin)
            rw [at1_lit, hkb] at rb
            rw [if_pos (.inl hkb)] at hwb
            subst hwb
            have hinI : (i : Int) < (n : Int) := by omega
            simp (disch := first | omega | assumption | decide | (simp <;> omega) | fail) [facts, e0, e1, e2, e9, e10, e11, e15, e16, e18, hin, hinI, rb, bv_eq]
            subst hI
            simp [e0, e1, e2, e9, e10, e11, e15, e16, e18]
          · have hkf : ks.getD i false = false := by simpa using hkb
            by_cases hlast : (i : Int) = lastZ ks k
            · by_cases hjt : (j : Int) < torn
              · rw [if_pos (.inr ⟨hlast, hjt⟩)] at hwb
                subst hwb
                by_cases hin : i < n
                · have hsb := (((hb.le hle).sl (by omega)).le ow6.all)
                  obtain ⟨bk, bo, rfl⟩ := hsb.lit (by omega)
                  have rb := hsb.at (getD_lt hb.len hin)
                  rw [at1_lit, hkf] at rb
                  have hinI : (i : Int) < (n : Int) := by omega
                  simp (disch := first | omega | assumption | decide | (simp <;> omega) | fail) [facts, e0, e1, e2, e9, e10, e11, e15, e16, e18, hin, hinI, rb, bv_eq, ← hlast, hjt]
                  subst hI
                  simp [e0, e1, e2, e9, e10, e11, e15, e16, e18, ← hlast]
                · simp (disch := first | omega | assumption | decide | (simp <;> omega) | fail) [facts, e0, e1, e2, e9, e10, e11, e15, e16, e18, hin, bv_eq, ← hlast, hjt]
                  subst hI
                  simp [e0, e1, e2, e9, e10, e11, e15, e16, e18, ← hlast]
              · rw [if_neg (fun h => by rcases h with h | h; exact hkb h; exact hjt h.2)] at hwb
                subst hwb
                by_cases hin : i < n
                · have hsb := (((hb.le hle).sl (by omega)).le ow6.all)
                  obtain ⟨bk, bo, rfl⟩ := hsb.lit (by omega)
                  have rb := hsb.at (getD_lt hb.len hin)
                  rw [at1_lit, hkf] at rb
                  have hinI : (i : Int) < (n : Int) := by omega
                  simp (disch := first | omega | assumption | decide | (simp <;> omega) | fail) [facts, e0, e1, e2, e9, e10, e11, e15, e16, e18, hin, hinI, rb, bv_eq, ← hlast, hjt]
                  subst hI
                  simp [e0, e1, e2, e9, e10, e11, e15, e16, e18, ← hlast]
                · simp (disch := first | omega | assumption | decide | (simp <;> omega) | fail) [facts, e0, e1, e2, e9, e10, e11, e15, e16, e18, hin, bv_eq, ← hlast, hjt]
                  subst hI
                  simp [e0, e1, e2, e9, e10, e11, e15, e16, e18, ← hlast]
            · rw [if_neg (fun h => by rcases h with h | h; exact hkb h; exact hlast h.1)] at hwb
              subst hwb
              by_cases hin : i < n
              · have hsb := (((hb.le hle).sl (by omega)).le ow6.all)
                obtain ⟨bk, bo, rfl⟩ := hsb.lit (by omega)
                have rb := hsb.at (getD_lt hb.len hin)
                rw [at1_lit, hkf] at rb
                have hinI : (i : Int) < (n : Int) := by omega
                simp (disch := first | omega | assumption | decide | (simp <;> omega) | fail) [facts, e0, e1, e2, e9, e10, e11, e15, e16, e18, hin, hinI, rb, bv_eq, hlast]
                subst hI
                simp [e0, e1, e2, e9, e10, e11, e15, e16, e18]
              · simp (disch := first | omega | assumption | decide | (simp <;> omega) | fail) [facts, e0, e1, e2, e9, e10, e11, e15, e16, e18, hin, bv_eq, hlast]
                subst hI
                simp [e0, e1, e2, e9, e10, e11, e15, e16, e18]
        subst hI
        clear e0 e1 e2 e9 e10 e11 e15 e16 e18
        rintro ⟨env, G4⟩ ⟨hG, e0, e1, e2, e9, e10, e11, e15, e16, e18, e19⟩
        simp only at hG e0 e1 e2 e9 e10 e11 e15 e16 e18 e19
        subst hG
        simp (disch := first | omega | assumption | decide | (simp <;> omega) | fail) [facts, e0, e1, e2, e9, e10, e11, e15, e16, e18, e19, hjI, rj]
        exact ⟨_, Heap.le_refl _, ⟨j + 1, by omega, rfl, by simp [e0], by simp [e1], by simp [e2], by simp [e9], by simp [e10], by simp [e11], by simp [e15], by simp [e16], by simp⟩, by simp [intOf, e18]; omega⟩
      · have hjI : ¬ (j : Int) < 64 := by omega
        simp (disch := first | omega | assumption | decide | (simp <;> omega) | fail) [facts, e0, e1, e2, e9, e10, e11, e15, e16, e18, hjI]
        exact ⟨_, Heap.le_refl _, ⟨i + 1, by omega, by simp [e0], by simp [e1], by simp [e2], by simp [e9], by simp [e10], by simp [e11], by simp, ow6⟩, by simp [intOf]; omega⟩
    · simp (disch := first | omega | assumption | decide | (simp <;> omega) | fail) [facts, e0, e1, e2, e9, e10, e11, e15, hlt]
      refine (diskDown_c ow3.le d3).mono ?_
      rintro v H9 ⟨rfl, rfl⟩
      simp (disch := first | omega | assumption | decide | (simp <;> omega) | fail) [facts, hdn]
      exact ⟨_, Heap.le_refl _⟩
end Go.Proofs.Ytobkfpohdknggaa.GL
