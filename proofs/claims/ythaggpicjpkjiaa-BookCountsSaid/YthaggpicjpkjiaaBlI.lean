/- Layer 20: BookCounts. -/
import Derived.Test.YthaggpicjpkjiaaBlH
namespace Go.Proofs.Ythaggpicjpkjiaa.GL
open Go Go.RowKit
open St (Txn txnL txnV zeroT RightT OkT Rec recV stepF fromL revT)
open Ca (S4 flat setV OkS CassOk newS giveE giveT loadE loadT leftZ fitS fitC fourIn fewIn addS addC loadS)
set_option maxRecDepth 10000
set_option pp.deepTerms.threshold 8
set_option pp.maxSteps 3000
set_option linter.unusedSimpArgs false
set_option linter.unusedVariables false

/-- A book of one terminal beside a row of numbers. -/
structure Cn (F A B H : Heap) (p mb b9 : Nat) (fv tv : Value) (M : List Txn) (x : Tm) (L : List Txn) (n0 n1 : Int) : Prop where
  t : TwoO F A B H
  bk : BookR A p fv tv mb M [x]
  pm : M.Perm L
  ok : BOk ⟨[x], L⟩
  row : B b9 = some (.row true 0 [.int .i64 n0, .int .i64 n1, .int .i64 0, .int .i64 0] 0)
theorem Cn.doc {F A B H : Heap} {p mb b9 : Nat} {fv tv : Value} {M : List Txn} {x : Tm} {L : List Txn} {n0 n1 : Int} (h : Cn F A B H p mb b9 fv tv M x L n0 n1) {r : Rec} {x' : Tm} {L' : List Txn} {e : Int} (hd : doB ⟨[x], L⟩ r = (⟨[x'], L'⟩, e)) (h0 : r.term = 0) (hpl : r.pan.length ≤ 100000) :
    ECalls Try.prog 12 #[.pointer (some ⟨p, 0, none⟩), recV r] H fun v H' => v = .int .i64 e ∧ ∃ A' M', Cn F A' B H' p mb b9 fv tv M' x' L' n0 n1 := by
  have hc := bdo_c H A p fv tv mb M L [x] h.t.ale h.bk h.pm h.ok r (by omega) (by omega) hpl
  have hok := doB_ok h.ok r (by omega)
  rw [hd] at hc hok
  refine hc.mono ?_
  rintro v H' ⟨rfl, A', M', ow, hB, hp⟩
  exact ⟨rfl, A', M', h.t.left ow, hB, hp, hok, h.row⟩
theorem Cn.frame {F F2 A B H H2 : Heap} {p mb b9 : Nat} {fv tv : Value} {M : List Txn} {x : Tm} {L : List Txn} {n0 n1 : Int} (h : Cn F A B H p mb b9 fv tv M x L n0 n1) (t : TwoO F2 A B H2) : Cn F2 A B H2 p mb b9 fv tv M x L n0 n1 := ⟨t, h.bk, h.pm, h.ok, h.row⟩
def bcInv (H1 : Heap) (a : Option Addr) (n c load p mb b9 : Nat) (fv tv : Value) (s : St) : Prop :=
  ∃ (i : Nat) (F A B : Heap) (M : List Txn) (x : Tm) (L : List Txn), i ≤ n ∧ s.env 1 = .slice a n c ∧ s.env 2 = .int .u8 load ∧ s.env 8 = .pointer (some ⟨p, 0, none⟩) ∧ s.env 9 = .pointer (some ⟨b9, 0, none⟩) ∧ s.env 10 = .int .i64 i ∧ Heap.le H1 F ∧
    Cn F A B s.heap p mb b9 fv tv M x L x.s.a.g x.s.b.g ∧ L.length = i ∧ ∀ y ∈ L, KZ.lt (kyT y) ⟨0, ((i + 1 : Nat) : Int)⟩
set_option maxHeartbeats 400000 in
theorem bookCounts_c (k : Nat) (a : Option Addr) (n c : Nat) (z : List UInt8) (load : Nat) (H : Heap) (hk : k < 256) (hl : load < 256) (h : SlA H a n 1 (z.map u8V)) :
    ECalls Try.prog 5 #[.int .u8 k, .slice a n c, .int .u8 load] H fun v _ => v = .bool true := by
  refine ecalls_of_ewp (args := [_, _, _]) Try.func5 rfl rfl rfl (by simp [Try.ntmps5]) (by kernel_rfl) ?_
  have hlen : z.length = n := by simpa using h.len
  simp (disch := first | omega | assumption | decide | (simp <;> omega) | fail) [facts, ]
  refine (known20_c H).mono ?_
  rintro v H1 ⟨rfl, hle1⟩
  replace h := h.le hle1
  by_cases hn : (20 : Int) < (n : Int)
  · simp (disch := first | omega | assumption | decide | (simp <;> omega) | fail) [facts, hn]
    exact ⟨_, Heap.le_refl _⟩
  have hb := fun H => bank_c 0 k H (by decide) hk
  simp (disch := first | omega | assumption | decide | (simp <;> omega) | fail) [facts, hn]
  refine (hb H1).mono ?_
  rintro v H2 ⟨T, U, owU, hC, hT⟩
  obtain ⟨⟨tv0, pv0, fv0, rfl, hc1, hc2, hc3⟩, hcok⟩ := hC
  obtain ⟨ta, tc, rfl, _, _⟩ := hc1.sl (Heap.le_refl U)
  obtain ⟨pa, pc, rfl, _, _⟩ := hc2.sl (Heap.le_refl U)
  obtain ⟨fa, fc, rfl, _, _⟩ := hc3.sl (Heap.le_refl U)
  have hC : CfgV U (.agg #[.slice ta T.length tc, .slice pa 4 pc, .slice fa 4 fc, .int .i64 500, .int .i64 100000]) T k := ⟨⟨_, _, _, rfl, hc1, hc2, hc3⟩, hcok⟩
  replace h := h.le owU.all
  simp (disch := first | omega | assumption | decide | (simp <;> omega) | fail) [facts, ]
  refine fresh_intro fun b7 hb7 => ?_
  have r7 := upd_same H2 b7 (.row true 0 [.slice ta T.length tc, .slice pa 4 pc, .slice fa 4 fc, .int .i64 500, .int .i64 100000] 0)
  have hl7 := le_upd (.row true 0 [.slice ta T.length tc, .slice pa 4 pc, .slice fa 4 fc, .int .i64 500, .int .i64 100000] 0) hb7
  replace h := h.le hl7
  have hU7 := Heap.le_trans owU.le hl7
  simp (disch := first | omega | assumption | decide | (simp <;> omega) | fail) [facts, upd_upd]
  generalize upd H2 b7 _ = H3 at *
  have hcb := bnew_c _ T k U H3 hU7 hC (by omega) (by omega) hk
  refine hcb.mono ?_
  rintro v H4 ⟨p, A, fv, tv, mb, rfl, owA, hB, _⟩
  have hok := bok_new hcok (by omega)
  obtain ⟨s0, hs0, hg0⟩ : ∃ x : Tm, T.map tm0 = [x] ∧ x.s.a.g = 0 ∧ x.s.b.g = 0 := by
    obtain ⟨s, rfl⟩ := List.length_eq_one_iff.1 hT
    exact ⟨tm0 s, rfl, rfl, rfl⟩
  rw [hs0] at hB hok
  simp (disch := first | omega | assumption | decide | (simp <;> omega) | fail) [facts, ]
  refine fresh_intro fun b9 hb9 => ?_
  have owB := Own.new (o := .row true 0 [.int .i64 0, .int .i64 0, .int .i64 0, .int .i64 0] 0) (Heap.le_refl H4) hb9
  have hto := TwoO.new (Heap.le_refl H3) owA owB
  have hB0 := upd_same (fun _ => none) b9 (.row true 0 [.int .i64 0, .int .i64 0, .int .i64 0, .int .i64 0] 0)
  simp (disch := first | omega | assumption | decide | (simp <;> omega) | fail) [facts, ]
  refine w_loop (bcInv H3 a n c load p mb b9 fv tv) (fun st => n - (intOf (st.env 10)).toNat) ?_ ?_
  · exact ⟨0, H3, A, _, [], s0, [], Nat.zero_le _, by simp, by simp, by simp, by simp, by simp, Heap.le_refl _, ⟨hto, hB, List.Perm.refl _, hok, by rw [hg0.1, hg0.2]; exact hB0⟩, rfl, by simp⟩
  clear hto hB0 owB hb9 hok hB owA hs0 hg0
  rintro ⟨env, G⟩ ⟨i, F, A, B, M, x, L, hi, e1, e2, e8, e9, e10, hF, hCn, hLl, hLk⟩
  simp only at e1 e2 e8 e9 e10 hCn
  by_cases hlt : i < n
  · have hltI : (i : Int) < (n : Int) := by omega
    obtain ⟨u, hu⟩ : ∃ u, z[i]? = some u := ⟨_, List.getElem?_eq_getElem (by omega)⟩
    obtain ⟨ab, ao, rfl⟩ := h.lit (by omega)
    have hwr : IntKind.wrap .u32 ((i : Int) + 1) = (i : Int) + 1 := by rw [IntKind.wrap_u32]; omega
    have hcast : ((i + 1 : Nat) : Int) = (i : Int) + 1 := by omega
    simp (disch := first | omega | assumption | decide | (simp <;> omega) | fail) [facts, e1, e10, hltI, hwr]
    refine fresh_intro fun b11 hb11 => ?_
    have t1 := hCn.t.keep hb11 (.row true 0 [.int .u16 0, .int .u32 ((i : Int) + 1)] 0)
    have hF1 := Heap.le_trans hF (le_upd (.row true 0 [.int .u16 0, .int .u32 ((i : Int) + 1)] 0) (le_of_none hCn.t.fle hb11))
    have r11 := upd_same F b11 (.row true 0 [.int .u16 0, .int .u32 ((i : Int) + 1)] 0)
    simp (disch := first | omega | assumption | decide | (simp <;> omega) | fail) [facts, upd_upd]
    have hCn1 := hCn.frame t1
    generalize upd F b11 _ = F1 at *
    generalize upd G b11 _ = G1 at *
    clear hCn
    have d1 := hCn1.doc (begin_do hLk (by omega)) rfl (by simp [rb])
    simp only [recV, rb, hcast] at d1
    have r11a := hCn1.t.fle _ _ r11
    simp (disch := first | omega | assumption | decide | (simp <;> omega) | fail) [facts, e8, r11a]
    refine d1.mono ?_
    rintro v G2 ⟨rfl, A2, M2, hCn2⟩
    have r11b := hCn2.t.fle _ _ r11
    have d2 := hCn2.doc (one_do (t := bt (i + 1)) (u := t2 (i + 1)) (ra_right (i + 1)) rfl (by simp [ra]) (by simp [ra]) (by simp [ra]) hLk rfl (ra_s (i + 1)) rfl) rfl (by simp [ra])
    simp only [recV, ra, hcast] at d2
    simp (disch := first | omega | assumption | decide | (simp <;> omega) | fail) [facts, e8, r11b]
    refine d2.mono ?_
    rintro v G3 ⟨rfl, A3, M3, hCn3⟩
    have r11c := hCn3.t.fle _ _ r11
    have d3 := hCn3.doc (one_do (t := t2 (i + 1)) (u := t3 (i + 1)) (rsd_right (i + 1)) rfl (by simp [rsd]) (by simp [rsd]) (by simp [rsd]) hLk rfl (rsd_s (i + 1)) rfl) rfl (by simp [rsd])
    simp only [recV, rsd, hcast] at d3
    simp (disch := first | omega | assumption | decide | (simp <;> omega) | fail) [facts, e8, r11c]
    refine d3.mono ?_
    rintro v G4 ⟨rfl, A4, M4, hCn4⟩
    obtain ⟨gA, hgA⟩ : ∃ g : Nat, g = u.toNat % 3 := ⟨_, rfl⟩
    obtain ⟨w3, hw3⟩ : ∃ g : Nat, g = u.toNat / 3 := ⟨_, rfl⟩
    obtain ⟨gB, hgB⟩ : ∃ g : Nat, g = w3 % 3 := ⟨_, rfl⟩
    have hA3 : (u.toNat : Int) % 3 = (gA : Int) := by omega
    have hW3 : (u.toNat : Int) / 3 = (w3 : Int) := by omega
    have hB3 : (w3 : Int) % 3 = (gB : Int) := by omega
    have hu256 : u.toNat < 256 := u.toNat_lt
    have hw86 : w3 < 86 := by omega
    have hgA2 : gA ≤ 2 := by omega
    have hgB2 : gB ≤ 2 := by omega
    have hH4 := Heap.le_trans hF1 hCn4.t.fle
    simp (disch := first | omega | assumption | decide | (simp <;> omega) | fail) [facts, ]
    refine w_growL (by simp [facts]) 15 [50,51,52,53,54,55,56,57,58,59,60,61,62,63,12] [.eq (.slice (some ⟨ab, ao, none⟩) n c), .eq (.int .i64 i), .eq (.pointer (some ⟨ab, ao + i, none⟩)), .eq (.int .u8 u.toNat), .eq (.int .u8 gA), .eq (.int .i64 gA), .eq (.slice (some ⟨ab, ao, none⟩) n c), .eq (.int .i64 i), .eq (.pointer (some ⟨ab, ao + i, none⟩)), .eq (.int .u8 u.toNat), .eq (.int .u8 w3), .eq (.int .u8 gB), .eq (.int .i64 gB), .eq (.agg #[.int .i64 gA, .int .i64 gB, .int .i64 0, .int .i64 0]), .new G4 [.int .i64 0, .int .i64 0, .int .i64 0, .int .i64 0] (fun b => .pointer (some ⟨b, 0, none⟩))] (by decide +kernel) rfl ?_ ?_
    · simp only [List.take_succ_cons, List.take_zero, allL_cons, allL_nil]
      refine ⟨?_, ?_, ?_, ?_, ?_, ?_, ?_, ?_, ?_, ?_, ?_, ?_, ?_, ?_, ?_, trivial⟩
      all_goals (unfold stepL; intro f Hx hl2 ha)
      all_goals (have ru : rd1U (Hx ab) (ao + i) = some (.int .u8 u.toNat) := (h.le (Heap.le_trans hH4 hl2)).at hu)
      all_goals try (simp (disch := first | omega | assumption | decide | (simp <;> omega) | fail) [facts, e1, e10, hltI, ru, hA3, hW3, hB3]; done)
      · simp (disch := first | omega | assumption | decide | (simp <;> omega) | fail) [facts, ]
        refine fresh_intro fun b hb => ?_
        simp (disch := first | omega | assumption | decide | (simp <;> omega) | fail) [facts, ]
        exact ⟨le_upd _ hb, le_of_none hl2 hb⟩
    intro f G5 hle5 hkn
    replace hkn : (∃ b, f 12 = .pointer (some ⟨b, 0, none⟩) ∧ G4 b = none ∧ G5 b = some (.row true 0 [.int .i64 0, .int .i64 0, .int .i64 0, .int .i64 0] 0)) := by simpa using hkn
    obtain ⟨b12, f12, hb12, r12⟩ := hkn
    have t5 := (hCn4.t.grow hle5).keep2 (le_of_none hCn4.t.ale hb12) (le_of_none hCn4.t.ble hb12) (.row true 0 [.int .i64 gA, .int .i64 gB, .int .i64 0, .int .i64 0] 0)
    have hb12F := le_of_none hCn4.t.fle hb12
    have hF5 := Heap.le_trans hF1 (le_upd (.row true 0 [.int .i64 gA, .int .i64 gB, .int .i64 0, .int .i64 0] 0) hb12F)
    have r12F := upd_same F1 b12 (.row true 0 [.int .i64 gA, .int .i64 gB, .int .i64 0, .int .i64 0] 0)
    have r11F := upd_other (o := .row true 0 [.int .i64 gA, .int .i64 gB, .int .i64 0, .int .i64 0] 0) hb12F r11
    have hCn5 := hCn4.frame t5
    simp (disch := first | omega | assumption | decide | (simp <;> omega) | fail) [facts, f12, r12]
    generalize upd F1 b12 _ = F5 at *
    generalize upd G5 b12 _ = G6 at *
    have r11g := hCn5.t.fle _ _ r11F
    have r12g := hCn5.t.fle _ _ r12F
    simp (disch := first | omega | assumption | decide | (simp <;> omega) | fail) [facts, f12, r11g, r12g]
    refine fresh_intro fun b13 hb13 => ?_
    have t6 := hCn5.t.keep hb13 (.row true 0 [.int .i64 6, .int .u16 0, .int .u32 ((i : Int) + 1), .string (mkS []), .int .i64 100, .int .i64 gA, .int .i64 gB, .int .i64 0, .int .i64 0, .int .i64 0, .int .i64 0, .int .i64 0, .int .i64 0, .int .i64 0, .int .i64 0, .int .i64 0, .int .i64 0] 0)
    have hb13F := le_of_none hCn5.t.fle hb13
    have hF6 := Heap.le_trans hF5 (le_upd (.row true 0 [.int .i64 6, .int .u16 0, .int .u32 ((i : Int) + 1), .string (mkS []), .int .i64 100, .int .i64 gA, .int .i64 gB, .int .i64 0, .int .i64 0, .int .i64 0, .int .i64 0, .int .i64 0, .int .i64 0, .int .i64 0, .int .i64 0, .int .i64 0, .int .i64 0] 0) hb13F)
    have r13F := upd_same F5 b13 (.row true 0 [.int .i64 6, .int .u16 0, .int .u32 ((i : Int) + 1), .string (mkS []), .int .i64 100, .int .i64 gA, .int .i64 gB, .int .i64 0, .int .i64 0, .int .i64 0, .int .i64 0, .int .i64 0, .int .i64 0, .int .i64 0, .int .i64 0, .int .i64 0, .int .i64 0] 0)
    have r12F6 := upd_other (o := .row true 0 [.int .i64 6, .int .u16 0, .int .u32 ((i : Int) + 1), .string (mkS []), .int .i64 100, .int .i64 gA, .int .i64 gB, .int .i64 0, .int .i64 0, .int .i64 0, .int .i64 0, .int .i64 0, .int .i64 0, .int .i64 0, .int .i64 0, .int .i64 0, .int .i64 0] 0) hb13F r12F
    have hCn6 := hCn5.frame t6
    simp (disch := first | omega | assumption | decide | (simp <;> omega) | fail) [facts, upd_upd]
    generalize upd F5 b13 _ = F6 at *
    generalize upd G6 b13 _ = G7 at *
    have c1 := cassettes_c G7 p fv tv mb M4 [x] (hCn6.bk.le hCn6.t.ale) 0 (by decide) (by simp)
    have hcz : cassZ [x] 0 = .tuple #[.agg (flat x.s).toArray, .bool true] := rfl
    rw [hcz] at c1
    obtain ⟨sl, hsl⟩ : ∃ sl, sl = flat x.s := ⟨_, rfl⟩
    rw [← hsl] at c1
    have sl16 : sl.length = 16 := by rw [hsl]; rfl
    have sl1 : sl.all (·.oneCell') = true := by rw [hsl]; rfl
    have ka : List.take 4 sl = [.int .i64 x.s.a.d, .int .i64 x.s.a.l, .int .i64 x.s.a.g, .int .i64 x.s.a.r] := by rw [hsl]; rfl
    have kb : List.take 4 (List.drop 4 sl) = [.int .i64 x.s.b.d, .int .i64 x.s.b.l, .int .i64 x.s.b.g, .int .i64 x.s.b.r] := by rw [hsl]; rfl
    have hspl : splice [.int .i64 0, .int .i64 0, .int .i64 0, .int .i64 0, .int .i64 0, .int .i64 0, .int .i64 0, .int .i64 0, .int .i64 0, .int .i64 0, .int .i64 0, .int .i64 0, .int .i64 0, .int .i64 0, .int .i64 0, .int .i64 0] 0 sl = sl := splice_all (by rw [sl16]; rfl)
    simp (disch := first | omega | assumption | decide | (simp <;> omega) | fail) [facts, e8]
    refine c1.mono ?_
    rintro v G8 ⟨rfl, hle8⟩
    have t7 := hCn6.t.grow hle8
    simp (disch := first | omega | assumption | decide | (simp <;> omega) | fail) [facts, ]
    refine fresh_intro fun b14 hb14 => ?_
    have t8 := t7.keep hb14 (.row true 0 sl 0)
    have hb14F := le_of_none t7.fle hb14
    have hF8 := Heap.le_trans hF6 (le_upd (.row true 0 sl 0) hb14F)
    have r14F := upd_same F6 b14 (.row true 0 sl 0)
    have r13F8 := upd_other (o := .row true 0 sl 0) hb14F r13F
    have r12F8 := upd_other (o := .row true 0 sl 0) hb14F r12F6
    have hCn8 := hCn6.frame t8
    simp (disch := first | omega | assumption | decide | (simp <;> omega) | fail) [facts, upd_upd, hspl]
    generalize upd F6 b14 _ = F8 at *
    generalize upd G8 b14 _ = G9 at *
    have cA := fun H => Ca.leftR_c x.s.a.d x.s.a.l x.s.a.g x.s.a.r H
    have cB := fun H => Ca.leftR_c x.s.b.d x.s.b.l x.s.b.g x.s.b.r H
    simp only [Ca.cassV] at cA cB
    have hgAb : (0 : Int) ≤ gA ∧ (gA : Int) ≤ 10000 := by omega
    have hgBb : (0 : Int) ≤ gB ∧ (gB : Int) ≤ 10000 := by omega
    have hyes := fun hf => give_yes (s := x.s) hgAb hgBb hf
    have hno := fun hf => give_no (s := x.s) hgAb hgBb hf
    obtain ⟨zA, hzA⟩ : ∃ z, z = leftZ x.s.a.l x.s.a.g x.s.a.r := ⟨_, rfl⟩
    obtain ⟨zB, hzB⟩ : ∃ z, z = leftZ x.s.b.l x.s.b.g x.s.b.r := ⟨_, rfl⟩
    rw [← hzA] at cA hyes hno
    rw [← hzB] at cB hyes hno
    obtain ⟨ft, hft⟩ : ∃ ft : Bool, ft = (decide ((gA : Int) ≤ zA) && decide ((gB : Int) ≤ zB)) := ⟨_, rfl⟩
    obtain ⟨I, hI⟩ : ∃ I : St → Prop, I = (fun s => s.env 1 = .slice (some ⟨ab, ao, none⟩) n c ∧ s.env 2 = .int .u8 load ∧ s.env 8 = .pointer (some ⟨p, 0, none⟩) ∧ s.env 9 = .pointer (some ⟨b9, 0, none⟩) ∧ s.env 10 = .int .i64 i ∧ s.env 12 = .pointer (some ⟨b12, 0, none⟩) ∧ s.env 13 = .pointer (some ⟨b13, 0, none⟩) ∧ s.env 16 = .bool ft ∧ TwoO F8 A4 B s.heap) := ⟨_, rfl⟩
    have r12g9 := t8.fle _ _ r12F8
    have r14g9 := t8.fle _ _ r14F
    refine w_cut I ?_ ?_
    · refine w_plan (P := Try.prog) (by simp [facts]) (opsP [0,2] (.both (opsP [1,3,4,5,6,7,9] (.both (opsP [8,10,11,12,13,14] .done) (opsP [10] (.both (opsP [8,11,12,13,14] .done) (opsP [11,8,12,13,14] .done))))) (opsP [3] (.both (opsP [1,4,5,6,7,9] (.both (opsP [8,10,11,12,13,14] .done) (opsP [10] (.both (opsP [8,11,12,13,14] .done) (opsP [11,8,12,13,14] .done))))) (opsP [4,1,5,6,7,9] (.both (opsP [8,10,11,12,13,14] .done) (opsP [10] (.both (opsP [8,11,12,13,14] .done) (opsP [11,8,12,13,14] .done))))))))) ?_ ?_
      · decide +kernel
      by_cases fA : (gA : Int) ≤ zA
      · simp (disch := first | omega | assumption | decide | (simp <;> omega) | fail) [facts, f12, r12g9, r14g9, ka]
        repeat' apply And.intro
        all_goals
          refine (cA _).mono ?_
          rintro v H9 ⟨rfl, hle9⟩
          have t9 := t8.grow hle9
          have r12h := t9.fle _ _ r12F8
          have r14h := t9.fle _ _ r14F
          simp (disch := first | omega | assumption | decide | (simp <;> omega) | fail) [facts, f12, r12h, r14h, kb, fA]
          repeat' apply And.intro
          all_goals
            refine (cB _).mono ?_
            rintro v H10 ⟨rfl, hle10⟩
            have t10 := t9.grow hle10
            have r12k := t10.fle _ _ r12F8
            simp (disch := first | omega | assumption | decide | (simp <;> omega) | fail) [facts, f12, r12k, fA]
            subst hI
            repeat' apply And.intro
            all_goals first
              | exact t10
              | (simp [e1, e2, e8, e9, e10, f12, hft, fA]; done)
      · simp (disch := first | omega | assumption | decide | (simp <;> omega) | fail) [facts, f12, r12g9, r14g9, ka]
        repeat' apply And.intro
        all_goals
          refine (cA _).mono ?_
          rintro v H9 ⟨rfl, hle9⟩
          have t9 := t8.grow hle9
          have r12h := t9.fle _ _ r12F8
          have r14h := t9.fle _ _ r14F
          simp (disch := first | omega | assumption | decide | (simp <;> omega) | fail) [facts, f12, r12h, r14h, kb, fA]
          subst hI
          repeat' apply And.intro
          all_goals first
            | exact t9
            | (simp [e1, e2, e8, e9, e10, f12, hft, fA]; done)
    clear e1 e2 e8 e9 e10 cA cB
    rintro ⟨env, G10⟩ hII
    subst hI
    obtain ⟨e1, e2, e8, e9, e10, e12, e13, e16, tX⟩ := hII
    simp only at e1 e2 e8 e9 e10 e12 e13 e16 tX
    have hCnX := hCn8.frame tX
    have r13g := tX.fle _ _ r13F8
    have hcd : doB ⟨[x], L ++ [t3 (i + 1)]⟩ (rcf (i + 1) gA gB) = if giveE x.s gA gB 0 0 0 0 0 0 ≠ 0 then (⟨[x], L ++ [t3 (i + 1)]⟩, giveE x.s gA gB 0 0 0 0 0 0) else (⟨[{ x with s := giveT x.s gA gB 0 0 0 0 0 0 }], L ++ [t4 (i + 1)]⟩, 0) :=
      conf_do (t := t3 (i + 1)) (u := t4 (i + 1)) (rcf_right (i + 1) hgAb hgBb) rfl rfl hLk rfl (rcf_s (i + 1) gA gB) rfl
    have hxok := hCnX.ok.sets x (by simp)
    have hga : 0 ≤ x.s.a.g ∧ x.s.a.g ≤ 10000 := hxok.1.2.1
    have hgb : 0 ≤ x.s.b.g ∧ x.s.b.g ≤ 10000 := hxok.2.1.2.1
    have hLk2 : ∀ (t : Txn), kyT t = ⟨0, ((i + 1 : Nat) : Int)⟩ → ∀ y ∈ L ++ [t], KZ.lt (kyT y) ⟨0, ((i + 1 + 1 : Nat) : Int)⟩ := fun t ht y hy => by
      have hs : KZ.lt ⟨0, ((i + 1 : Nat) : Int)⟩ ⟨0, ((i + 1 + 1 : Nat) : Int)⟩ := .inr ⟨rfl, by show ((i + 1 : Nat) : Int) < ((i + 1 + 1 : Nat) : Int); omega⟩
      rcases List.mem_append.1 hy with hy | hy
      · exact KZ.trans (hLk y hy) hs
      · rw [List.mem_singleton.1 hy, ht]; exact hs
    by_cases hf : (gA : Int) ≤ zA ∧ (gB : Int) ≤ zB
    · obtain ⟨hg0, hgT⟩ := hyes hf
      rw [hg0, if_neg (by decide), hgT] at hcd
      have hftt : ft = true := by rw [hft]; simp [hf.1, hf.2]
      rw [hftt] at e16
      have d4 := hCnX.doc hcd rfl (by simp [rcf])
      simp only [recV, rcf, hcast] at d4
      simp (disch := first | omega | assumption | decide | (simp <;> omega) | fail) [facts, e8, e13, e16, r13g]
      refine d4.mono ?_
      rintro v G11 ⟨rfl, A11, M11, hCn11⟩
      have r9g := hCn11.t.ble _ _ hCn11.row
      have r12h := hCn11.t.fle _ _ r12F8
      simp (disch := first | omega | assumption | decide | (simp <;> omega) | fail) [facts, e16]
      have tY := hCn11.t.right ((Own.refl hCn11.t.ble).set hCn11.row (.row true 0 [.int .i64 (x.s.a.g + gA), .int .i64 (x.s.b.g + gB), .int .i64 0, .int .i64 0] 0))
      have hCnY : Cn F8 A11 (upd B b9 (.row true 0 [.int .i64 (x.s.a.g + gA), .int .i64 (x.s.b.g + gB), .int .i64 0, .int .i64 0] 0)) _ p mb b9 fv tv M11 { x with s := addS x.s gA gB 0 0 0 0 0 0 } (L ++ [t4 (i + 1)]) (x.s.a.g + gA) (x.s.b.g + gB) := ⟨tY, hCn11.bk, hCn11.pm, hCn11.ok, upd_same _ _ _⟩
      have hed := err_do (x := { x with s := addS x.s gA gB 0 0 0 0 0 0 }) (L := L) (t := t4 (i + 1)) (r := rcf (i + 1) gA gB) (rcf_right (i + 1) hgAb hgBb) rfl (by simp [rcf]) (by simp [rcf]) hLk rfl (by rw [rcf_e]; decide)
      rw [rcf_e] at hed
      have d5 := hCnY.doc hed rfl (by simp [rcf])
      simp only [recV, rcf, hcast] at d5
      have r13h := hCnY.t.fle _ _ r13F8
      refine w_plan (P := Try.prog) (by simp [facts]) (opsP [0,1,2,3,4,5,6,7,10] (.both (opsP [8,9,11,12,13] .done) (opsP [11,8,9,12,13] .done))) ?_ ?_
      · decide +kernel
      have q129 : b12 ≠ b9 := fun e => by have h1 := hCn11.t.fb b12 _ r12F8; rw [e, hCn11.row] at h1; cases h1
      simp (disch := first | omega | assumption | decide | (simp <;> omega) | fail) [facts, e9, e12, r9g, r12h, upd_upd, upd_ne, e8, e13, r13h]
      repeat' apply And.intro
      all_goals
        refine d5.mono ?_
        rintro v G12 ⟨rfl, A12, M12, hCn12⟩
        simp (disch := first | omega | assumption | decide | (simp <;> omega) | fail) [facts, e10]
        exact ⟨_, Heap.le_refl _, ⟨i + 1, F8, A12, _, M12, _, _, by omega, by simp [e1], by simp [e2], by simp [e8], by simp [e9], by simp, hF8, hCn12, by simp [hLl], hLk2 _ rfl⟩, by simp [intOf, e10]; omega⟩
    · rw [hno hf, if_pos (by decide)] at hcd
      have hftf : ft = false := by
        rw [hft, ← Bool.not_eq_true, Bool.and_eq_true, decide_eq_true_eq, decide_eq_true_eq]
        exact hf
      rw [hftf] at e16
      have d4 := hCnX.doc hcd rfl (by simp [rcf])
      simp only [recV, rcf, hcast] at d4
      simp (disch := first | omega | assumption | decide | (simp <;> omega) | fail) [facts, e8, e13, e16, r13g]
      refine d4.mono ?_
      rintro v G11 ⟨rfl, A11, M11, hCn11⟩
      simp (disch := first | omega | assumption | decide | (simp <;> omega) | fail) [facts, e16, e10]
      exact ⟨_, Heap.le_refl _, ⟨i + 1, F8, A11, _, M11, _, _, by omega, by simp [e1], by simp [e2], by simp [e8], by simp [e9], by simp, hF8, hCn11, by simp [hLl], hLk2 _ rfl⟩, by simp [intOf, e10]; omega⟩
  · have hltI : ¬ (i : Int) < (n : Int) := by omega
    obtain ⟨w, hw⟩ : ∃ w : Int, w = (load : Int) + 2 := ⟨_, rfl⟩
    have hwb : 1 ≤ w ∧ w ≤ 10000 := by omega
    have c1 := cassettes_c G p fv tv mb M [x] (hCn.bk.le hCn.t.ale) 0 (by decide) (by simp)
    have hcz : cassZ [x] 0 = .tuple #[.agg (flat x.s).toArray, .bool true] := rfl
    rw [hcz] at c1
    obtain ⟨sl, hsl⟩ : ∃ sl, sl = flat x.s := ⟨_, rfl⟩
    rw [← hsl] at c1
    have sl16 : sl.length = 16 := by rw [hsl]; rfl
    have sl1 : sl.all (·.oneCell') = true := by rw [hsl]; rfl
    have s2 : sl[2]? = some (.int .i64 x.s.a.g) := by rw [hsl]; rfl
    have s6 : sl[6]? = some (.int .i64 x.s.b.g) := by rw [hsl]; rfl
    obtain ⟨_, s2b⟩ := List.getElem?_eq_some_iff.1 s2
    obtain ⟨_, s6b⟩ := List.getElem?_eq_some_iff.1 s6
    have hspl : splice [.int .i64 0, .int .i64 0, .int .i64 0, .int .i64 0, .int .i64 0, .int .i64 0, .int .i64 0, .int .i64 0, .int .i64 0, .int .i64 0, .int .i64 0, .int .i64 0, .int .i64 0, .int .i64 0, .int .i64 0, .int .i64 0] 0 sl = sl := splice_all (by rw [sl16]; rfl)
    simp (disch := first | omega | assumption | decide | (simp <;> omega) | fail) [facts, e1, e8, e10, hltI]
    refine c1.mono ?_
    rintro v G1 ⟨rfl, hle1⟩
    have t1 := hCn.t.grow hle1
    simp (disch := first | omega | assumption | decide | (simp <;> omega) | fail) [facts, ]
    refine fresh_intro fun b17 hb17 => ?_
    have hb17A := le_of_none t1.ale hb17
    have hb17B := le_of_none t1.ble hb17
    have t2' := t1.keep hb17 (.row true 0 sl 0)
    have r17F := upd_same F b17 (.row true 0 sl 0)
    have hCn2 := hCn.frame t2'
    simp (disch := first | omega | assumption | decide | (simp <;> omega) | fail) [facts, upd_upd, hspl]
    generalize upd F b17 _ = F2 at *
    generalize upd G1 b17 _ = G2 at *
    have r17 := t2'.fle _ _ r17F
    have r9g := hCn2.t.ble _ _ hCn2.row
    have d1 := hCn2.doc (load_do hwb) rfl (by simp [rld])
    simp only [recV, rld] at d1
    simp (disch := first | omega | assumption | decide | (simp <;> omega) | fail) [facts, r17, r9g, s2, s2b, s6, s6b, e9, e8, e2, ← hw]
    refine d1.mono ?_
    rintro v G3 ⟨rfl, A3, M3, hCn3⟩
    have r17' := hCn3.t.fle _ _ r17F
    have hokX := hCn3.ok
    obtain ⟨y, hy⟩ : ∃ y : Tm, y = ⟨⟨⟨x.s.a.d, w, 1, 0⟩, ⟨x.s.b.d, 2, 0, 0⟩, ⟨x.s.c.d, 3, 0, 0⟩, ⟨x.s.e.d, 4, 0, 0⟩⟩, false, 3⟩ := ⟨_, rfl⟩
    rw [← hy] at hCn3
    have c3 := cassettes_c G3 p fv tv mb M3 [y] (hCn3.bk.le hCn3.t.ale) 0 (by decide) (by simp)
    have hcz3 : cassZ [y] 0 = .tuple #[.agg (flat y.s).toArray, .bool true] := rfl
    rw [hcz3] at c3
    obtain ⟨yl, hyl⟩ : ∃ yl, yl = flat y.s := ⟨_, rfl⟩
    rw [← hyl] at c3
    have yl16 : yl.length = 16 := by rw [hyl]; rfl
    have yl1 : yl.all (·.oneCell') = true := by rw [hyl]; rfl
    have y1 : yl[1]? = some (.int .i64 w) := by rw [hyl, hy]; rfl
    have y2 : yl[2]? = some (.int .i64 1) := by rw [hyl, hy]; rfl
    have y6 : yl[6]? = some (.int .i64 0) := by rw [hyl, hy]; rfl
    obtain ⟨_, y1b⟩ := List.getElem?_eq_some_iff.1 y1
    obtain ⟨_, y2b⟩ := List.getElem?_eq_some_iff.1 y2
    obtain ⟨_, y6b⟩ := List.getElem?_eq_some_iff.1 y6
    have hsp2 : splice sl 0 yl = yl := splice_all (by rw [sl16, yl16])
    simp (disch := first | omega | assumption | decide | (simp <;> omega) | fail) [facts, e8]
    refine c3.mono ?_
    rintro v G4 ⟨rfl, hle4⟩
    have t4 := hCn3.t.grow hle4
    have r17'' := hle4 _ _ r17'
    have t5 := t4.keep2 (hCn3.t.fa b17 _ r17F) (hCn3.t.fb b17 _ r17F) (.row true 0 yl 0)
    have r17e := upd_same G4 b17 (.row true 0 yl 0)
    simp (disch := first | omega | assumption | decide | (simp <;> omega) | fail) [facts, r17'', hsp2]
    generalize upd G4 b17 _ = G5 at *
    have l1 := loads_c G5 p fv tv mb M3 [y] (hCn3.bk.le t5.ale) 0 (by decide) (by simp)
    have o1 := out_c G5 p fv tv mb M3 [y] (hCn3.bk.le t5.ale) 0 (by decide) (by simp)
    have hld : y.ld = 3 := by rw [hy]
    have hout : y.out = false := by rw [hy]
    simp only [List.getElem?_cons_zero, hld, hout] at l1 o1
    simp (disch := first | omega | assumption | decide | (simp <;> omega) | fail) [facts, r17e, y1, y1b, y2, y2b, y6, y6b, e2, ← hw, e8]
    refine l1.mono ?_
    rintro v H9 ⟨rfl, rfl⟩
    simp (disch := first | omega | assumption | decide | (simp <;> omega) | fail) [facts, e8]
    refine o1.mono ?_
    rintro v H9 ⟨rfl, rfl⟩
    simp (disch := first | omega | assumption | decide | (simp <;> omega) | fail) [facts, ]
    exact ⟨_, Heap.le_refl _⟩
end Go.Proofs.Ythaggpicjpkjiaa.GL
