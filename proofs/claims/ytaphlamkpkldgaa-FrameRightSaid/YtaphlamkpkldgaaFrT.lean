/- Layer 4: FrameRight. -/
import Derived.Test.YtaphlamkpkldgaaFrS
namespace Go.Proofs.Ytaphlamkpkldgaa.GL
open Go Go.RowKit
set_option maxRecDepth 10000
set_option pp.deepTerms.threshold 8
set_option pp.maxSteps 3000
set_option linter.unusedSimpArgs false
set_option linter.unusedVariables false

theorem b_addT {P : Program} {t : TypeId} {x y : ByteArray} (h : x.size + y.size ≤ 9223372036854775807) : qBin P .add t (.string x) (.string y) = some (.string (x ++ y)) := by
  simp only [qBin, qStr]
  rw [if_pos (by omega)]
theorem mkS_app (x y : List UInt8) : mkS x ++ mkS y = mkS (x ++ y) := by
  apply ByteArray.ext
  simp [mkS, ByteArray.data_append]
theorem b_addM {P : Program} {t : TypeId} {x y : List UInt8} (h : x.length + y.length ≤ 9223372036854775807) : qBin P .add t (.string (mkS x)) (.string (mkS y)) = some (.string (mkS (x ++ y))) := by
  rw [b_addT (by rw [mkS_sz, mkS_sz]; exact h), mkS_app]
theorem dec_small (z : Nat) (hz : z < 10) (H : Heap) : ECalls Try.prog 31 #[.int .i64 z] H fun v H' => v = .string (mkS [UInt8.ofNat (48 + z)]) ∧ H' = H := by
  refine ecalls_of_ewp (args := [_]) Try.func31 rfl rfl rfl (by simp [Try.ntmps31]) (by kernel_rfl) ?_
  have h0 : ¬ (z : Int) < 0 := by omega
  have h1 : (z : Int) < 10 := by omega
  have hcs : z = 0 ∨ z = 1 ∨ z = 2 ∨ z = 3 ∨ z = 4 ∨ z = 5 ∨ z = 6 ∨ z = 7 ∨ z = 8 ∨ z = 9 := by omega
  rcases hcs with rfl | rfl | rfl | rfl | rfl | rfl | rfl | rfl | rfl | rfl
  all_goals
    simp (disch := first | omega | assumption | decide | (simp <;> omega) | fail) [facts, h0, h1]
    decide
def digG (n : Nat) : Nat → List UInt8
  | 0 => []
  | k + 1 => UInt8.ofNat (48 + n % 10) :: digG (n / 7) k
theorem digG_len : ∀ (k n : Nat), (digG n k).length = k
  | 0, _ => rfl
  | k + 1, n => by rw [digG, List.length_cons, digG_len k]
theorem digG_all : ∀ (k n : Nat), (digG n k).all isD = true
  | 0, _ => rfl
  | k + 1, n => by
    rw [digG, List.all_cons, digG_all k, Bool.and_true]
    unfold isD
    rw [UInt8.toNat_ofNat']
    have : n % 10 < 10 := Nat.mod_lt _ (by decide)
    simp
    omega
def dgInv (H : Heap) (n k : Nat) (st : St) : Prop :=
  ∃ (i m : Nat) (s : List UInt8), i ≤ k ∧ m < 2 ^ 64 ∧ st.env 0 = .int .u64 m ∧ st.env 1 = .int .i64 k ∧ st.env 5 = .string (mkS s) ∧ st.env 6 = .int .i64 i ∧ st.heap = H ∧ s.length = i ∧ s ++ digG m (k - i) = digG n k
theorem digits4_c (n k : Nat) (hn : n < 2 ^ 64) (hk : k ≤ 1000) (H : Heap) : ECalls Try.prog 18 #[.int .u64 n, .int .i64 k] H fun v H' => v = .string (mkS (digG n k)) ∧ H' = H := by
  refine ecalls_of_ewp (args := [_, _]) Try.func18 rfl rfl rfl (by simp [Try.ntmps18]) (by kernel_rfl) ?_
  simp (disch := first | omega | assumption | decide | (simp <;> omega) | fail) [facts, ]
  refine w_loop (dgInv H n k) (fun st => k - (intOf (st.env 6)).toNat) ?_ ?_
  · exact ⟨0, n, [], Nat.zero_le _, hn, by simp, by simp, by simp [mkS], by simp, rfl, rfl, by simp⟩
  rintro ⟨env, G⟩ ⟨i, m, s, hi, hm, e0, e1, e5, e6, hG, hl, hs⟩
  simp only at e0 e1 e5 e6 hG
  subst hG
  by_cases hlt : i < k
  · have hltI : (i : Int) < (k : Int) := by omega
    obtain ⟨q, hq⟩ : ∃ q, q = m % 10 := ⟨_, rfl⟩
    have hqI : (m : Int) % 10 = (q : Int) := by omega
    obtain ⟨w, hw⟩ : ∃ w, w = m / 7 := ⟨_, rfl⟩
    have hwI : (m : Int) / 7 = (w : Int) := by omega
    simp (disch := first | omega | assumption | decide | (simp <;> omega) | fail) [facts, e0, e1, e5, e6, hltI, hqI]
    refine (dec_small q (by omega) G).mono ?_
    rintro v G' ⟨rfl, rfl⟩
    obtain ⟨d, hd⟩ : ∃ d, d = UInt8.ofNat (48 + q) := ⟨_, rfl⟩
    rw [← hd]
    have hsz : s.length + [d].length ≤ 9223372036854775807 := by simp; omega
    have hadd := b_addM (P := Try.prog) (t := 9) hsz
    simp (disch := first | omega | assumption | decide | (simp <;> omega) | fail) [facts, e0, e5, e6, hwI, hadd]
    refine ⟨_, Heap.le_refl _, ⟨i + 1, w, s ++ [d], by omega, by omega, by simp, by simp [e1], by simp, by simp, rfl, by simp [hl], ?_⟩, by simp [intOf, e6]; omega⟩
    rw [← hs, show k - i = (k - (i + 1)) + 1 by omega, digG, ← hq, ← hw, ← hd]
    simp
  · have hik : i = k := by omega
    subst hik
    rw [Nat.sub_self] at hs
    simp only [digG, List.append_nil] at hs
    simp (disch := first | omega | assumption | decide | (simp <;> omega) | fail) [facts, e0, e1, e5, e6, hs]
def r0Z : RZ := ⟨1, 1, 2, panS 1, 1, zeroN, zeroN, zeroN⟩
theorem recS_0 : recS 0 1 1 1 = r0Z := by simp [recS, r0Z]
theorem r0_pan : (panS 1).size = 2 ∧ allD (panS 1) = true := by
  refine ⟨?_, (panS_ok 1).2.1⟩
  unfold panS; rw [mkS_sz]; rfl
theorem zeroN_ok : zeroN.ok = true := by decide
def RightI (b5 : Nat) (st : St) : Prop := ∃ (r : RZ) (ok : Bool), r.wf ∧ r.pan.size ≤ 1000 ∧ r.right = ok ∧ st.heap b5 = some (.row true 0 [.int .i64 r.kind, .int .u16 r.t, .int .u32 r.s, .string r.pan, .int .i64 r.am, .int .i64 r.ns.a, .int .i64 r.ns.b, .int .i64 r.ns.c, .int .i64 r.ns.d, .int .i64 r.rs.a, .int .i64 r.rs.b, .int .i64 r.rs.c, .int .i64 r.rs.d, .int .i64 r.ls.a, .int .i64 r.ls.b, .int .i64 r.ls.c, .int .i64 r.ls.d] 0) ∧ st.env 5 = .pointer (some ⟨b5, 0, none⟩) ∧ st.env 7 = .bool ok
theorem ok4 (v : Int) : (⟨v, 0, 0, 0⟩ : NZ).ok = (decide (0 ≤ v) && decide (v ≤ 10000)) ∧ (⟨0, v, 0, 0⟩ : NZ).ok = (decide (0 ≤ v) && decide (v ≤ 10000)) ∧ (⟨0, 0, v, 0⟩ : NZ).ok = (decide (0 ≤ v) && decide (v ≤ 10000)) ∧ (⟨0, 0, 0, v⟩ : NZ).ok = (decide (0 ≤ v) && decide (v ≤ 10000)) := by
  refine ⟨?_, ?_, ?_, ?_⟩ <;> simp [NZ.ok, NZ.l, inC]
theorem wf12 (r : RZ) (ht : r.t = 1) (hs : r.s = 2) : r.wf := ⟨⟨by omega, by omega⟩, ⟨by omega, by omega⟩⟩
theorem wrap_u64 (v : Int) : ∃ n : Nat, IntKind.wrap .u64 v = (n : Int) ∧ n < 2 ^ 64 := by
  refine ⟨(v % 18446744073709551616).toNat, ?_, ?_⟩
  · simp only [IntKind.wrap, IntKind.bits, IntKind.signed, Bool.false_and]
    simp
    omega
  · omega
set_option maxHeartbeats 4000000 in
theorem frameRight_c (what : Nat) (v : Int) (H : Heap) (hw : what < 256) (hv : -9223372036854775808 ≤ v ∧ v ≤ 9223372036854775807) :
    ECalls Try.prog 7 #[.int .u8 what, .int .i64 v] H fun v _ => v = .bool true := by
  refine ecalls_of_ewp (args := [_, _]) Try.func7 rfl rfl rfl (by simp [Try.ntmps7]) (by kernel_rfl) ?_
  simp (disch := first | omega | assumption | decide | (simp <;> omega) | fail) [facts, ]
  refine (known_c H).mono ?_
  rintro w H2 ⟨rfl, hl2⟩
  simp (disch := first | omega | assumption | decide | (simp <;> omega) | fail) [facts, ]
  refine (rec_c 0 1 1 1 (by decide) (by decide) (by decide) (by decide) H2 r0Z recS_0.symm).mono ?_
  rintro w H3 ⟨rfl, hl3⟩
  simp (disch := first | omega | assumption | decide | (simp <;> omega) | fail) [facts, ]
  refine fresh_intro fun b5 hb5 => ?_
  obtain ⟨q, hq⟩ : ∃ q, q = what % 6 := ⟨_, rfl⟩
  have hqI : (what : Int) % 6 = (q : Int) := by omega
  obtain ⟨d, hd⟩ : ∃ d, d = what / 6 := ⟨_, rfl⟩
  have hdI : (what : Int) / 6 = (d : Int) := by omega
  obtain ⟨e, he⟩ : ∃ e, e = d % 4 := ⟨_, rfl⟩
  have heI : (d : Int) % 4 = (e : Int) := by omega
  have hR := r0_pan
  have hz := zeroN_ok
  simp (disch := first | omega | assumption | decide | (simp <;> omega) | fail) [facts, upd_upd, hqI]
  have r5 := upd_same H3 b5 (.row true 0 [.int .i64 r0Z.kind, .int .u16 r0Z.t, .int .u32 r0Z.s, .string r0Z.pan, .int .i64 r0Z.am, .int .i64 r0Z.ns.a, .int .i64 r0Z.ns.b, .int .i64 r0Z.ns.c, .int .i64 r0Z.ns.d, .int .i64 r0Z.rs.a, .int .i64 r0Z.rs.b, .int .i64 r0Z.rs.c, .int .i64 r0Z.rs.d, .int .i64 r0Z.ls.a, .int .i64 r0Z.ls.b, .int .i64 r0Z.ls.c, .int .i64 r0Z.ls.d] 0)
  have hl5 := le_upd (.row true 0 [.int .i64 r0Z.kind, .int .u16 r0Z.t, .int .u32 r0Z.s, .string r0Z.pan, .int .i64 r0Z.am, .int .i64 r0Z.ns.a, .int .i64 r0Z.ns.b, .int .i64 r0Z.ns.c, .int .i64 r0Z.ns.d, .int .i64 r0Z.rs.a, .int .i64 r0Z.rs.b, .int .i64 r0Z.rs.c, .int .i64 r0Z.rs.d, .int .i64 r0Z.ls.a, .int .i64 r0Z.ls.b, .int .i64 r0Z.ls.c, .int .i64 r0Z.ls.d] 0) hb5
  generalize upd H3 b5 (.row true 0 [.int .i64 r0Z.kind, .int .u16 r0Z.t, .int .u32 r0Z.s, .string r0Z.pan, .int .i64 r0Z.am, .int .i64 r0Z.ns.a, .int .i64 r0Z.ns.b, .int .i64 r0Z.ns.c, .int .i64 r0Z.ns.d, .int .i64 r0Z.rs.a, .int .i64 r0Z.rs.b, .int .i64 r0Z.rs.c, .int .i64 r0Z.rs.d, .int .i64 r0Z.ls.a, .int .i64 r0Z.ls.b, .int .i64 r0Z.ls.c, .int .i64 r0Z.ls.d] 0) = H4 at *
  refine cond_cutB (RightI b5) ?_ ?_
  · have hcs : q = 0 ∨ q = 1 ∨ q = 2 ∨ q = 3 ∨ q = 4 ∨ q = 5 := by omega
    have hes : e = 0 ∨ e = 1 ∨ e = 2 ∨ e = 3 := by omega
    have hps : (panS 1).size ≤ 1000 := by omega
    rcases hcs with rfl | rfl | rfl | rfl | rfl | rfl
    · have hrt : ({ r0Z with kind := v } : RZ).right = (decide (1 ≤ v) && decide (v < 10)) := by simp [RZ.right, r0Z, hR, hz]
      by_cases c1 : 1 ≤ v
      · by_cases c2 : v < 10
        all_goals
          simp (disch := first | omega | assumption | decide | (simp <;> omega) | fail) [facts, r5, c1, c2]
          exact ⟨{ r0Z with kind := v }, _, wf12 _ rfl rfl, hps, hrt, upd_same _ _ _, by simp, by simp [c1, c2]⟩
      · simp (disch := first | omega | assumption | decide | (simp <;> omega) | fail) [facts, r5, c1]
        exact ⟨{ r0Z with kind := v }, _, wf12 _ rfl rfl, hps, hrt, upd_same _ _ _, by simp, by simp [c1]⟩
    · have hrt : ({ r0Z with am := v } : RZ).right = (decide (0 ≤ v) && decide (v ≤ 1000000)) := by simp [RZ.right, r0Z, hR, hz]
      by_cases c1 : 0 ≤ v
      · by_cases c2 : v ≤ 1000000
        all_goals
          simp (disch := first | omega | assumption | decide | (simp <;> omega) | fail) [facts, r5, c1, c2]
          exact ⟨{ r0Z with am := v }, _, wf12 _ rfl rfl, hps, hrt, upd_same _ _ _, by simp, by simp [c1, c2]⟩
      · simp (disch := first | omega | assumption | decide | (simp <;> omega) | fail) [facts, r5, c1]
        exact ⟨{ r0Z with am := v }, _, wf12 _ rfl rfl, hps, hrt, upd_same _ _ _, by simp, by simp [c1]⟩
    · rcases hes with rfl | rfl | rfl | rfl
      · have hok := (ok4 v).1
        have hrt : ({ r0Z with ns := ⟨v, 0, 0, 0⟩ } : RZ).right = (decide (0 ≤ v) && decide (v ≤ 10000)) := by simp [RZ.right, r0Z, hR, hz, hok]
        by_cases c1 : 0 ≤ v
        · by_cases c2 : v ≤ 10000
          all_goals
            simp (disch := first | omega | assumption | decide | (simp <;> omega) | fail) [facts, r5, c1, c2, hdI, heI]
            exact ⟨{ r0Z with ns := ⟨v, 0, 0, 0⟩ }, _, wf12 _ rfl rfl, hps, hrt, upd_same _ _ _, by simp, by simp [c1, c2]⟩
        · simp (disch := first | omega | assumption | decide | (simp <;> omega) | fail) [facts, r5, c1, hdI, heI]
          exact ⟨{ r0Z with ns := ⟨v, 0, 0, 0⟩ }, _, wf12 _ rfl rfl, hps, hrt, upd_same _ _ _, by simp, by simp [c1]⟩
      · have hok := (ok4 v).2.1
        have hrt : ({ r0Z with ns := ⟨0, v, 0, 0⟩ } : RZ).right = (decide (0 ≤ v) && decide (v ≤ 10000)) := by simp [RZ.right, r0Z, hR, hz, hok]
        by_cases c1 : 0 ≤ v
        · by_cases c2 : v ≤ 10000
          all_goals
            simp (disch := first | omega | assumption | decide | (simp <;> omega) | fail) [facts, r5, c1, c2, hdI, heI]
            exact ⟨{ r0Z with ns := ⟨0, v, 0, 0⟩ }, _, wf12 _ rfl rfl, hps, hrt, upd_same _ _ _, by simp, by simp [c1, c2]⟩
        · simp (disch := first | omega | assumption | decide | (simp <;> omega) | fail) [facts, r5, c1, hdI, heI]
          exact ⟨{ r0Z with ns := ⟨0, v, 0, 0⟩ }, _, wf12 _ rfl rfl, hps, hrt, upd_same _ _ _, by simp, by simp [c1]⟩
      · have hok := (ok4 v).2.2.1
        have hrt : ({ r0Z with ns := ⟨0, 0, v, 0⟩ } : RZ).right = (decide (0 ≤ v) && decide (v ≤ 10000)) := by simp [RZ.right, r0Z, hR, hz, hok]
        by_cases c1 : 0 ≤ v
        · by_cases c2 : v ≤ 10000
          all_goals
            simp (disch := first | omega | assumption | decide | (simp <;> omega) | fail) [facts, r5, c1, c2, hdI, heI]
            exact ⟨{ r0Z with ns := ⟨0, 0, v, 0⟩ }, _, wf12 _ rfl rfl, hps, hrt, upd_same _ _ _, by simp, by simp [c1, c2]⟩
        · simp (disch := first | omega | assumption | decide | (simp <;> omega) | fail) [facts, r5, c1, hdI, heI]
          exact ⟨{ r0Z with ns := ⟨0, 0, v, 0⟩ }, _, wf12 _ rfl rfl, hps, hrt, upd_same _ _ _, by simp, by simp [c1]⟩
      · have hok := (ok4 v).2.2.2
        have hrt : ({ r0Z with ns := ⟨0, 0, 0, v⟩ } : RZ).right = (decide (0 ≤ v) && decide (v ≤ 10000)) := by simp [RZ.right, r0Z, hR, hz, hok]
        by_cases c1 : 0 ≤ v
        · by_cases c2 : v ≤ 10000
          all_goals
            simp (disch := first | omega | assumption | decide | (simp <;> omega) | fail) [facts, r5, c1, c2, hdI, heI]
            exact ⟨{ r0Z with ns := ⟨0, 0, 0, v⟩ }, _, wf12 _ rfl rfl, hps, hrt, upd_same _ _ _, by simp, by simp [c1, c2]⟩
        · simp (disch := first | omega | assumption | decide | (simp <;> omega) | fail) [facts, r5, c1, hdI, heI]
          exact ⟨{ r0Z with ns := ⟨0, 0, 0, v⟩ }, _, wf12 _ rfl rfl, hps, hrt, upd_same _ _ _, by simp, by simp [c1]⟩
    · rcases hes with rfl | rfl | rfl | rfl
      · have hok := (ok4 v).1
        have hrt : ({ r0Z with rs := ⟨v, 0, 0, 0⟩ } : RZ).right = (decide (0 ≤ v) && decide (v ≤ 10000)) := by simp [RZ.right, r0Z, hR, hz, hok]
        by_cases c1 : 0 ≤ v
        · by_cases c2 : v ≤ 10000
          all_goals
            simp (disch := first | omega | assumption | decide | (simp <;> omega) | fail) [facts, r5, c1, c2, hdI, heI]
            exact ⟨{ r0Z with rs := ⟨v, 0, 0, 0⟩ }, _, wf12 _ rfl rfl, hps, hrt, upd_same _ _ _, by simp, by simp [c1, c2]⟩
        · simp (disch := first | omega | assumption | decide | (simp <;> omega) | fail) [facts, r5, c1, hdI, heI]
          exact ⟨{ r0Z with rs := ⟨v, 0, 0, 0⟩ }, _, wf12 _ rfl rfl, hps, hrt, upd_same _ _ _, by simp, by simp [c1]⟩
      · have hok := (ok4 v).2.1
        have hrt : ({ r0Z with rs := ⟨0, v, 0, 0⟩ } : RZ).right = (decide (0 ≤ v) && decide (v ≤ 10000)) := by simp [RZ.right, r0Z, hR, hz, hok]
        by_cases c1 : 0 ≤ v
        · by_cases c2 : v ≤ 10000
          all_goals
            simp (disch := first | omega | assumption | decide | (simp <;> omega) | fail) [facts, r5, c1, c2, hdI, heI]
            exact ⟨{ r0Z with rs := ⟨0, v, 0, 0⟩ }, _, wf12 _ rfl rfl, hps, hrt, upd_same _ _ _, by simp, by simp [c1, c2]⟩
        · simp (disch := first | omega | assumption | decide | (simp <;> omega) | fail) [facts, r5, c1, hdI, heI]
          exact ⟨{ r0Z with rs := ⟨0, v, 0, 0⟩ }, _, wf12 _ rfl rfl, hps, hrt, upd_same _ _ _, by simp, by simp [c1]⟩
      · have hok := (ok4 v).2.2.1
        have hrt : ({ r0Z with rs := ⟨0, 0, v, 0⟩ } : RZ).right = (decide (0 ≤ v) && decide (v ≤ 10000)) := by simp [RZ.right, r0Z, hR, hz, hok]
        by_cases c1 : 0 ≤ v
        · by_cases c2 : v ≤ 10000
          all_goals
            simp (disch := first | omega | assumption | decide | (simp <;> omega) | fail) [facts, r5, c1, c2, hdI, heI]
            exact ⟨{ r0Z with rs := ⟨0, 0, v, 0⟩ }, _, wf12 _ rfl rfl, hps, hrt, upd_same _ _ _, by simp, by simp [c1, c2]⟩
        · simp (disch := first | omega | assumption | decide | (simp <;> omega) | fail) [facts, r5, c1, hdI, heI]
          exact ⟨{ r0Z with rs := ⟨0, 0, v, 0⟩ }, _, wf12 _ rfl rfl, hps, hrt, upd_same _ _ _, by simp, by simp [c1]⟩
      · have hok := (ok4 v).2.2.2
        have hrt : ({ r0Z with rs := ⟨0, 0, 0, v⟩ } : RZ).right = (decide (0 ≤ v) && decide (v ≤ 10000)) := by simp [RZ.right, r0Z, hR, hz, hok]
        by_cases c1 : 0 ≤ v
        · by_cases c2 : v ≤ 10000
          all_goals
            simp (disch := first | omega | assumption | decide | (simp <;> omega) | fail) [facts, r5, c1, c2, hdI, heI]
            exact ⟨{ r0Z with rs := ⟨0, 0, 0, v⟩ }, _, wf12 _ rfl rfl, hps, hrt, upd_same _ _ _, by simp, by simp [c1, c2]⟩
        · simp (disch := first | omega | assumption | decide | (simp <;> omega) | fail) [facts, r5, c1, hdI, heI]
          exact ⟨{ r0Z with rs := ⟨0, 0, 0, v⟩ }, _, wf12 _ rfl rfl, hps, hrt, upd_same _ _ _, by simp, by simp [c1]⟩
    · rcases hes with rfl | rfl | rfl | rfl
      · have hok := (ok4 v).1
        have hrt : ({ r0Z with ls := ⟨v, 0, 0, 0⟩ } : RZ).right = (decide (0 ≤ v) && decide (v ≤ 10000)) := by simp [RZ.right, r0Z, hR, hz, hok]
        by_cases c1 : 0 ≤ v
        · by_cases c2 : v ≤ 10000
          all_goals
            simp (disch := first | omega | assumption | decide | (simp <;> omega) | fail) [facts, r5, c1, c2, hdI, heI]
            exact ⟨{ r0Z with ls := ⟨v, 0, 0, 0⟩ }, _, wf12 _ rfl rfl, hps, hrt, upd_same _ _ _, by simp, by simp [c1, c2]⟩
        · simp (disch := first | omega | assumption | decide | (simp <;> omega) | fail) [facts, r5, c1, hdI, heI]
          exact ⟨{ r0Z with ls := ⟨v, 0, 0, 0⟩ }, _, wf12 _ rfl rfl, hps, hrt, upd_same _ _ _, by simp, by simp [c1]⟩
      · have hok := (ok4 v).2.1
        have hrt : ({ r0Z with ls := ⟨0, v, 0, 0⟩ } : RZ).right = (decide (0 ≤ v) && decide (v ≤ 10000)) := by simp [RZ.right, r0Z, hR, hz, hok]
        by_cases c1 : 0 ≤ v
        · by_cases c2 : v ≤ 10000
          all_goals
            simp (disch := first | omega | assumption | decide | (simp <;> omega) | fail) [facts, r5, c1, c2, hdI, heI]
            exact ⟨{ r0Z with ls := ⟨0, v, 0, 0⟩ }, _, wf12 _ rfl rfl, hps, hrt, upd_same _ _ _, by simp, by simp [c1, c2]⟩
        · simp (disch := first | omega | assumption | decide | (simp <;> omega) | fail) [facts, r5, c1, hdI, heI]
          exact ⟨{ r0Z with ls := ⟨0, v, 0, 0⟩ }, _, wf12 _ rfl rfl, hps, hrt, upd_same _ _ _, by simp, by simp [c1]⟩
      · have hok := (ok4 v).2.2.1
        have hrt : ({ r0Z with ls := ⟨0, 0, v, 0⟩ } : RZ).right = (decide (0 ≤ v) && decide (v ≤ 10000)) := by simp [RZ.right, r0Z, hR, hz, hok]
        by_cases c1 : 0 ≤ v
        · by_cases c2 : v ≤ 10000
          all_goals
            simp (disch := first | omega | assumption | decide | (simp <;> omega) | fail) [facts, r5, c1, c2, hdI, heI]
            exact ⟨{ r0Z with ls := ⟨0, 0, v, 0⟩ }, _, wf12 _ rfl rfl, hps, hrt, upd_same _ _ _, by simp, by simp [c1, c2]⟩
        · simp (disch := first | omega | assumption | decide | (simp <;> omega) | fail) [facts, r5, c1, hdI, heI]
          exact ⟨{ r0Z with ls := ⟨0, 0, v, 0⟩ }, _, wf12 _ rfl rfl, hps, hrt, upd_same _ _ _, by simp, by simp [c1]⟩
      · have hok := (ok4 v).2.2.2
        have hrt : ({ r0Z with ls := ⟨0, 0, 0, v⟩ } : RZ).right = (decide (0 ≤ v) && decide (v ≤ 10000)) := by simp [RZ.right, r0Z, hR, hz, hok]
        by_cases c1 : 0 ≤ v
        · by_cases c2 : v ≤ 10000
          all_goals
            simp (disch := first | omega | assumption | decide | (simp <;> omega) | fail) [facts, r5, c1, c2, hdI, heI]
            exact ⟨{ r0Z with ls := ⟨0, 0, 0, v⟩ }, _, wf12 _ rfl rfl, hps, hrt, upd_same _ _ _, by simp, by simp [c1, c2]⟩
        · simp (disch := first | omega | assumption | decide | (simp <;> omega) | fail) [facts, r5, c1, hdI, heI]
          exact ⟨{ r0Z with ls := ⟨0, 0, 0, v⟩ }, _, wf12 _ rfl rfl, hps, hrt, upd_same _ _ _, by simp, by simp [c1]⟩
    · obtain ⟨n, hn, hn64⟩ := wrap_u64 v
      have hda : allD (mkS (digG n d)) = true := by unfold allD; rw [mkS_list]; exact digG_all d n
      have hsz : (mkS (digG n d)).size = d := by rw [mkS_sz, digG_len]
      have hrt : ({ r0Z with pan := mkS (digG n d) } : RZ).right = decide (d ≤ 19) := by simp [RZ.right, r0Z, hda, hsz, hz]
      have hdb : ((d : Int) ≤ 19) = (d ≤ 19) := by apply propext; omega
      simp (disch := first | omega | assumption | decide | (simp <;> omega) | fail) [facts, hqI, hdI, hn]
      refine (digits4_c n d hn64 (by omega) H4).mono ?_
      rintro w H5 ⟨rfl, rfl⟩
      simp (disch := first | omega | assumption | decide | (simp <;> omega) | fail) [facts, r5, hdI]
      exact ⟨{ r0Z with pan := mkS (digG n d) }, _, wf12 _ rfl rfl, by show (mkS (digG n d)).size ≤ 1000; omega, hrt, upd_same _ _ _, by simp, by simp; omega⟩
  · rintro ⟨env, G⟩ ⟨r, ok, hrw, hrp, hrr, r5', e5, e7⟩
    simp only at r5' e5 e7
    simp (disch := first | omega | assumption | decide | (simp <;> omega) | fail) [facts, r5', e5, e7]
    refine (fputA_c r G hrw (by omega)).mono ?_
    rintro w G2 ⟨sv, rfl, R, ow, hlb⟩
    have r5a := ow.all _ _ r5'
    cases ok with
    | true =>
      have hE : putE r = 0 := by simp [putE, hrr]
      simp (disch := first | omega | assumption | decide | (simp <;> omega) | fail) [facts, r5a, e5, e7, hE]
      refine (right_c r G2 (by omega)).mono ?_
      rintro w G3 ⟨rfl, hl3'⟩
      have r5b := hl3' _ _ r5a
      rw [hrr]
      simp (disch := first | omega | assumption | decide | (simp <;> omega) | fail) [facts, r5b, e5, e7]
      refine (rightR_c r G3 (by omega)).mono ?_
      rintro w G4 ⟨rfl, hl4'⟩
      rw [hrr]
      simp (disch := first | omega | assumption | decide | (simp <;> omega) | fail) [facts, e7]
      exact ⟨_, Heap.le_refl _⟩
    | false =>
      have hE : putE r = 27 := by simp [putE, hrr]
      simp (disch := first | omega | assumption | decide | (simp <;> omega) | fail) [facts, r5a, e5, e7, hE]
      refine (right_c r G2 (by omega)).mono ?_
      rintro w G3 ⟨rfl, hl3'⟩
      have r5b := hl3' _ _ r5a
      rw [hrr]
      simp (disch := first | omega | assumption | decide | (simp <;> omega) | fail) [facts, r5b, e5, e7]
      refine (rightR_c r G3 (by omega)).mono ?_
      rintro w G4 ⟨rfl, hl4'⟩
      rw [hrr]
      simp (disch := first | omega | assumption | decide | (simp <;> omega) | fail) [facts, e7]
      exact ⟨_, Heap.le_refl _⟩
end Go.Proofs.Ytaphlamkpkldgaa.GL
