/- Layer 21: LedgerPlays, walked. -/
import Derived.Test.YtdeffhibolcebaaLeS
namespace Go.Proofs.Ytdeffhibolcebaa.GL
open Go Go.RowKit Go.MapKept
set_option maxRecDepth 10000
set_option pp.deepTerms.threshold 8
set_option pp.maxSteps 3000
set_option linter.unusedSimpArgs false
set_option linter.unusedVariables false

set_option maxHeartbeats 8000000 in
theorem plays_c (a0 a1 a2 : Option Addr) (n0 c0 n1 c1 n2 c2 : Nat) (zs : List UInt8) (fs : List Int) (L : List A21) (H : Heap) (h0 : SlA H a0 n0 1 (zs.map u8V)) (h1 : SlA H a1 n1 1 (fs.map i64V)) (h2 : SlA H a2 n2 6 (rowsC A21.cells L)) (hL : ∀ x ∈ L, x.ok) :
    ECalls Try.prog 3 #[.slice a0 n0 c0, .slice a1 n1 c1, .slice a2 n2 c2] H fun r _ => r = .bool true := by
  refine ecalls_of_ewp (args := [_, _, _]) Try.func3 rfl rfl rfl (by simp [Try.ntmps3]) (by kernel_rfl) ?_
  have hl0 : zs.length = n0 := by simpa using h0.len
  have hl1 : fs.length = n1 := by simpa using h1.len
  have hl2 : L.length = n2 := h2.els a216 (by decide)
  simp (disch := first | omega | assumption | decide | (simp <;> omega) | fail) [facts, ]
  refine (known_c H).mono ?_
  rintro v H0 ⟨rfl, hle0⟩
  replace h0 := h0.le hle0
  replace h1 := h1.le hle0
  replace h2 := h2.le hle0
  by_cases k0 : 70 < n0
  · have k0I : (70 : Int) < (n0 : Int) := by omega
    simp (disch := first | omega | assumption | decide | (simp <;> omega) | fail) [facts, k0I]
    exact ⟨_, Heap.le_refl _⟩
  have k0I : ¬ (70 : Int) < (n0 : Int) := by omega
  by_cases k1 : 80 < n1
  · have k1I : (80 : Int) < (n1 : Int) := by omega
    simp (disch := first | omega | assumption | decide | (simp <;> omega) | fail) [facts, k0I, k1I]
    exact ⟨_, Heap.le_refl _⟩
  have k1I : ¬ (80 : Int) < (n1 : Int) := by omega
  by_cases k2 : 60 < n2
  · have k2I : (60 : Int) < (n2 : Int) := by omega
    simp (disch := first | omega | assumption | decide | (simp <;> omega) | fail) [facts, k0I, k1I, k2I]
    exact ⟨_, Heap.le_refl _⟩
  have k2I : ¬ (60 : Int) < (n2 : Int) := by omega
  simp (disch := first | omega | assumption | decide | (simp <;> omega) | fail) [facts, k0I, k1I, k2I]
  obtain ⟨ps, hps⟩ : ∃ ps, ps = zs.map fun z => panS z.toNat := ⟨_, rfl⟩
  have hpl : ps.length = n0 := by rw [hps]; simpa using hl0
  refine w_loop (pl0Inv H0 a0 a1 a2 n0 c0 n1 c1 n2 c2 ps) (fun st => n0 - (intOf (st.env 8)).toNat) ?_ ?_
  · exact ⟨0, _, Nat.zero_le _, by simp, by simp, by simp, by simp, Own.nil (Heap.le_refl _), .inl ⟨by simp, rfl, rfl⟩⟩
  rintro ⟨env, G⟩ ⟨i, R, hi, e0, e1, e2, e8, ow, hls⟩
  simp only at e0 e1 e2 e8 ow hls
  by_cases hlt : i < n0
  · have hltI : (i : Int) < (n0 : Int) := by omega
    obtain ⟨z, hz⟩ : ∃ z, zs[i]? = some z := ⟨_, List.getElem?_eq_getElem (by omega)⟩
    obtain ⟨ab, ao, rfl⟩ := h0.lit (by omega)
    have rz : rd1U (G ab) (ao + i) = some (.int .u8 z.toNat) := (h0.le ow.all).at hz
    generalize e7 : env 7 = sv at hls
    simp (disch := first | omega | assumption | decide | (simp <;> omega) | fail) [facts, e0, e1, e2, e7, e8, hltI, rz]
    refine (pan_c G z.toNat z.toNat_lt).mono ?_
    rintro v G1 ⟨rfl, hle1⟩
    simp (disch := first | omega | assumption | decide | (simp <;> omega) | fail) [facts, e7]
    refine fresh_intro fun b hb => ?_
    simp (disch := first | omega | assumption | decide | (simp <;> omega) | fail) [facts, e7]
    refine hls.app (e := 9) (s := 1) (nbs := 16) (z := .string ByteArray.empty) (m := 1) (ys := [.string (panS z.toNat)]) (by simp [facts]) (by simp [facts]) (by simp [facts]) (by simp [facts]) (by simp) (by decide) (ow.grow (Heap.le_trans hle1 (le_upd _ hb)))
      (srcOne (s := 1) (b := b) (e1 := 9) (z := .string ByteArray.empty) (by simp [facts]) (by simp [facts]) (by simp [facts]) rfl) rfl rfl (by omega) ?_
    intro v' H' R' ow' hl' _ _
    simp (disch := first | omega | assumption | decide | (simp <;> omega) | fail) [facts, e8]
    have hpi : ps[i]? = some (panS z.toNat) := by rw [hps]; simp [hz]
    refine ⟨_, Heap.le_refl _, ⟨i + 1, R', by omega, by simp [e0], by simp [e1], by simp [e2], by simp, ow', ?_⟩, by simp [intOf, e8]; omega⟩
    rw [List.take_add_one, hpi]
    simpa using hl'
  have hin : i = n0 := by omega
  subst hin
  rw [List.take_of_length_le (by omega)] at hls
  obtain ⟨av, cv, hv7, hsl7, _⟩ := hls.sl ow.le
  have hF0 := ow.all
  simp (disch := first | omega | assumption | decide | (simp <;> omega) | fail) [facts, e0, e1, e2, e8, hv7]
  refine (new_c G av a1 i cv n1 c1 ps fs hsl7 (h1.le hF0) (by omega) (by omega)).mono ?_
  rintro v G1 ⟨pa, fm, lm, A, rfl, owA, hA⟩
  simp (disch := first | omega | assumption | decide | (simp <;> omega) | fail) [facts, e0, e1, e2, e8, hv7]
  refine (rnew_c G1 av a1 i cv n1 c1 ps fs (hsl7.le owA.all) ((h1.le hF0).le owA.all) (by omega) (by omega)).mono ?_
  rintro v G2 ⟨pb, B, rfl, owB, hB⟩
  have two : TwoO H0 A B G2 := TwoO.new hF0 owA owB
  have wf0 := WfN.new fs ps i
  simp (disch := first | omega | assumption | decide | (simp <;> omega) | fail) [facts, e2]
  refine w_loop (pl2Inv H0 a2 n2 c2 pa pb fm lm) (fun st => n2 - (intOf (st.env 11)).toNat) ?_ ?_
  · exact ⟨0, _, _, A, B, Nat.zero_le _, by simp [e2], by simp, by simp, by simp, two, hA, hB, wf0⟩
  clear wf0 two owB hB owA hA hF0 hsl7 hv7 hls ow e0 e1 e2 e8
  rintro ⟨env1, G⟩ ⟨j, F, M, A, B, hj, e2, e9, e10, e11, ⟨two, hA, hB, wf⟩⟩
  simp only at e2 e9 e10 e11 two
  by_cases hlt2 : j < n2
  · have hltI : (j : Int) < (n2 : Int) := by omega
    obtain ⟨x, hx⟩ : ∃ x, L[j]? = some x := ⟨_, List.getElem?_eq_getElem (by omega)⟩
    obtain ⟨xw, xk, xp, xs⟩ := hL x (List.mem_of_getElem? hx)
    obtain ⟨ab, ao, rfl⟩ := h2.lit (by omega)
    have rx : rdNU (G ab) (ao + j * 6) 6 = some [.int .u8 x.w, .int .u8 x.k, .int .u8 x.p, .int .i64 x.a, .int .i64 x.v, .int .u16 x.s] := (h2.le two.fle).el a216 hx (j := 0) (r := 6) (by decide) (by decide)
    simp (disch := first | omega | assumption | decide | (simp <;> omega) | fail) [facts, e2, e9, e10, e11, hltI, rx]
    refine fresh_intro fun kb hkb => ?_
    have twk := two.keep hkb (.row true 0 [.int .u8 x.w, .int .u8 x.k, .int .u8 x.p, .int .i64 x.a, .int .i64 x.v, .int .u16 x.s] 0)
    obtain ⟨Gk, hGk⟩ : ∃ Gk, Gk = upd G kb (.row true 0 [.int .u8 x.w, .int .u8 x.k, .int .u8 x.p, .int .i64 x.a, .int .i64 x.v, .int .u16 x.s] 0) := ⟨_, rfl⟩
    obtain ⟨Fk, hFk⟩ : ∃ Fk, Fk = upd H0 kb (.row true 0 [.int .u8 x.w, .int .u8 x.k, .int .u8 x.p, .int .i64 x.a, .int .i64 x.v, .int .u16 x.s] 0) := ⟨_, rfl⟩
    have hHF : Heap.le H0 Fk := by rw [hFk]; exact le_upd _ (le_of_none two.fle hkb)
    have hFkb : Fk kb = some (.row true 0 [.int .u8 x.w, .int .u8 x.k, .int .u8 x.p, .int .i64 x.a, .int .i64 x.v, .int .u16 x.s] 0) := by rw [hFk, upd_same]
    have hkb1 : Gk kb = some (.row true 0 [.int .u8 x.w, .int .u8 x.k, .int .u8 x.p, .int .i64 x.a, .int .i64 x.v, .int .u16 x.s] 0) := by rw [hGk, upd_same]
    simp (disch := first | omega | assumption | decide | (simp <;> omega) | fail) [facts, e2, e9, e10, e11, upd_upd]
    rw [← hGk]
    rw [← hGk, ← hFk] at twk
    -- GEN
    have hgb := wf.gb (by omega)
    have hrb : ∀ e, gE (kT x.k) (kS x.k) M = some e → e.net ≤ 1000000 ∧ -100000000000000 ≤ (gF e.pan F).getD 0 ∧ (gF e.pan F).getD 0 ≤ 100000000000000 := fun e he => by
      obtain ⟨q, _, hq, _⟩ := gE_idx he
      have := wf.bd e (List.mem_of_getElem? hq)
      have := hgb e.pan
      omega
    have hdb : ∀ v, gF (panS x.p) F = some v → v ≤ 100000000000000 := fun v hv => by
      have := hgb (panS x.p)
      rw [hv] at this
      simp at this; omega
    obtain ⟨I1, hI1⟩ : ∃ I : St → Prop, I = (fun st => ∃ am : Int, st.env 2 = .slice (some ⟨ab, ao, none⟩) n2 c2 ∧ st.env 9 = .pointer (some ⟨pa, 0, none⟩) ∧ st.env 10 = .pointer (some ⟨pb, 0, none⟩) ∧ st.env 11 = .int .i64 j ∧ st.env 12 = .pointer (some ⟨kb, 0, none⟩) ∧ st.env 13 = .int .i64 am ∧ st.heap = Gk) := ⟨_, rfl⟩
    refine cond_cut3 I1 ?_ ?_
    · by_cases h16 : 16 ≤ x.w
      · have h16I : (16 : Int) ≤ (x.w : Int) := by omega
        simp (disch := first | omega | assumption | decide | (simp <;> omega) | fail) [facts, h16I, hkb1]
        subst hI1
        exact ⟨_, by simp [e2], by simp [e9], by simp [e10], by simp [e11], by simp, by simp; rfl, rfl⟩
      · have h16I : ¬ (16 : Int) ≤ (x.w : Int) := by omega
        simp (disch := first | omega | assumption | decide | (simp <;> omega) | fail) [facts, h16I]
        subst hI1
        exact ⟨x.a, by simp [e2], by simp [e9], by simp [e10], by simp [e11], by simp, by simp, rfl⟩
    rintro ⟨env2, G2⟩ hS
    subst hI1
    clear e2 e9 e10 e11
    obtain ⟨am, e2, e9, e10, e11, e12, e13, hG2⟩ := hS
    simp only at e2 e9 e10 e11 e12 e13 hG2
    subst hG2
    obtain ⟨I2, hI2⟩ : ∃ I : St → Prop, I = (fun st => ∃ F' M' A' B', st.env 2 = .slice (some ⟨ab, ao, none⟩) n2 c2 ∧ st.env 9 = .pointer (some ⟨pa, 0, none⟩) ∧ st.env 10 = .pointer (some ⟨pb, 0, none⟩) ∧ st.env 11 = .int .i64 j ∧ st.env 12 = .pointer (some ⟨kb, 0, none⟩) ∧ PlS Fk pa pb fm lm (j + 1) F' M' A' B' st.heap) := ⟨_, rfl⟩
    simp (disch := first | omega | assumption | decide | (simp <;> omega) | fail) [facts, e2, e9, e10, e11, e12, e13, hkb1]
    refine cond_cut3 I2 ?_ ?_
    · by_cases h3 : 3 < x.w % 6
      · have h3I : (3 : Int) < (x.w : Int) % 6 := by omega
        simp (disch := first | omega | assumption | decide | (simp <;> omega) | fail) [facts, h3I, e12, hkb1]
        obtain ⟨I3, hI3⟩ : ∃ I : St → Prop, I = (fun st => ∃ g : Int, st.env 2 = .slice (some ⟨ab, ao, none⟩) n2 c2 ∧ st.env 9 = .pointer (some ⟨pa, 0, none⟩) ∧ st.env 10 = .pointer (some ⟨pb, 0, none⟩) ∧ st.env 11 = .int .i64 j ∧ st.env 12 = .pointer (some ⟨kb, 0, none⟩) ∧ st.env 13 = .int .i64 am ∧ st.env 14 = .int .i64 g ∧ st.heap = G2) := ⟨_, rfl⟩
        refine cond_cut3 I3 ?_ ?_
        · by_cases h16 : 16 ≤ x.w
          · have h16I : (16 : Int) ≤ (x.w : Int) := by omega
            simp (disch := first | omega | assumption | decide | (simp <;> omega) | fail) [facts, h16I, e12, hkb1]
            subst hI3
            exact ⟨_, by simp [e2], by simp [e9], by simp [e10], by simp [e11], by simp [e12], by simp [e13], by simp; rfl, rfl⟩
          · have h16I : ¬ (16 : Int) ≤ (x.w : Int) := by omega
            simp (disch := first | omega | assumption | decide | (simp <;> omega) | fail) [facts, h16I]
            subst hI3
            exact ⟨x.v, by simp [e2], by simp [e9], by simp [e10], by simp [e11], by simp [e12], by simp [e13], by simp, rfl⟩
        rintro ⟨env3, G3⟩ hS
        subst hI3
        clear e2 e9 e10 e11 e12 e13
        obtain ⟨g, e2, e9, e10, e11, e12, e13, e14, hG3⟩ := hS
        simp only at e2 e9 e10 e11 e12 e13 e14 hG3
        subst hG3
        simp (disch := first | omega | assumption | decide | (simp <;> omega) | fail) [facts, ]
        refine w_vals (C := Unit) (by simp [facts]) (by decide +kernel) (fun _ => [.pointer (some ⟨pa, 0, none⟩), .pointer (some ⟨kb, 1, none⟩), .int .u8 x.k, .agg #[.int .u16 (kT x.k), .int .u32 (kS x.k)], .int .i64 g, .string (revA g), .pointer (some ⟨pb, 0, none⟩), .pointer (some ⟨kb, 1, none⟩), .int .u8 x.k, .agg #[.int .u16 (kT x.k), .int .u32 (kS x.k)], .int .i64 g, .string (revA g), .bool false]) (PI Fk pa pb fm lm F (revF F M (kT x.k) (kS x.k) g) M (revL M (kT x.k) (kS x.k) g) 5 11) () ?_ ?_ ?_
        · exact PI.init twk hA hB
        · simp only [allFrom_cons, allFrom_nil, putAll_cons, putAll_nil]
          refine ⟨?_, ?_, ?_, ?_, ?_, ?_, ?_, ?_, ?_, ?_, ?_, ?_, ?_, trivial⟩
          all_goals (unfold stepV; intro c g' Hx hg hr' hI)
          · simp (disch := first | omega | assumption | decide | (simp <;> omega) | fail) [facts, e2, e9, e10, e11, e12, e13, e14]
            exact endV_same (by rintro d ⟨⟩; simp (disch := first | omega | assumption | decide | (simp <;> omega) | fail) [facts, e2, e9, e10, e11, e12, e13, e14]) (hI.keep (Heap.le_refl _) (by decide) (by decide))
          · simp (disch := first | omega | assumption | decide | (simp <;> omega) | fail) [facts, e2, e9, e10, e11, e12, e13, e14]
            exact endV_same (by rintro d ⟨⟩; simp (disch := first | omega | assumption | decide | (simp <;> omega) | fail) [facts, e2, e9, e10, e11, e12, e13, e14]) (hI.keep (Heap.le_refl _) (by decide) (by decide))
          · have hfx := hI.fle _ _ hFkb
            simp (disch := first | omega | assumption | decide | (simp <;> omega) | fail) [facts, e2, e9, e10, e11, e12, e13, e14, hfx]
            exact endV_same (by rintro d ⟨⟩; simp (disch := first | omega | assumption | decide | (simp <;> omega) | fail) [facts, e2, e9, e10, e11, e12, e13, e14]) (hI.keep (Heap.le_refl _) (by decide) (by decide))
          · simp (disch := first | omega | assumption | decide | (simp <;> omega) | fail) [facts, e2, e9, e10, e11, e12, e13, e14]
            refine (key_c _ x.k xk).mono ?_
            rintro v H' ⟨rfl, hl⟩
            simp (disch := first | omega | assumption | decide | (simp <;> omega) | fail) [facts, ]
            exact endV_same (by rintro d ⟨⟩; simp (disch := first | omega | assumption | decide | (simp <;> omega) | fail) [facts, e2, e9, e10, e11, e12, e13, e14]) (hI.keep hl (by decide) (by decide))
          · simp (disch := first | omega | assumption | decide | (simp <;> omega) | fail) [facts, e2, e9, e10, e11, e12, e13, e14]
            exact endV_same (by rintro d ⟨⟩; simp (disch := first | omega | assumption | decide | (simp <;> omega) | fail) [facts, e2, e9, e10, e11, e12, e13, e14]) (hI.keep (Heap.le_refl _) (by decide) (by decide))
          · obtain ⟨A', hle', hA', hnx⟩ := hI.fst hg (by decide)
            simp (disch := first | omega | assumption | decide | (simp <;> omega) | fail) [facts, e2, e9, e10, e11, e12, e13, e14]
            refine (reverse_c hle' hA' (kT x.k) (kS x.k) g hrb).mono ?_
            rintro v H' ⟨rfl, R', ow', hA2⟩
            simp (disch := first | omega | assumption | decide | (simp <;> omega) | fail) [facts, ]
            exact endV_same (by rintro d ⟨⟩; simp (disch := first | omega | assumption | decide | (simp <;> omega) | fail) [facts, e2, e9, e10, e11, e12, e13, e14]) (hnx H' R' ow' hA2)
          · simp (disch := first | omega | assumption | decide | (simp <;> omega) | fail) [facts, e2, e9, e10, e11, e12, e13, e14]
            exact endV_same (by rintro d ⟨⟩; simp (disch := first | omega | assumption | decide | (simp <;> omega) | fail) [facts, e2, e9, e10, e11, e12, e13, e14]) (hI.keep (Heap.le_refl _) (by decide) (by decide))
          · simp (disch := first | omega | assumption | decide | (simp <;> omega) | fail) [facts, e2, e9, e10, e11, e12, e13, e14]
            exact endV_same (by rintro d ⟨⟩; simp (disch := first | omega | assumption | decide | (simp <;> omega) | fail) [facts, e2, e9, e10, e11, e12, e13, e14]) (hI.keep (Heap.le_refl _) (by decide) (by decide))
          · have hfx := hI.fle _ _ hFkb
            simp (disch := first | omega | assumption | decide | (simp <;> omega) | fail) [facts, e2, e9, e10, e11, e12, e13, e14, hfx]
            exact endV_same (by rintro d ⟨⟩; simp (disch := first | omega | assumption | decide | (simp <;> omega) | fail) [facts, e2, e9, e10, e11, e12, e13, e14]) (hI.keep (Heap.le_refl _) (by decide) (by decide))
          · simp (disch := first | omega | assumption | decide | (simp <;> omega) | fail) [facts, e2, e9, e10, e11, e12, e13, e14]
            refine (key_c _ x.k xk).mono ?_
            rintro v H' ⟨rfl, hl⟩
            simp (disch := first | omega | assumption | decide | (simp <;> omega) | fail) [facts, ]
            exact endV_same (by rintro d ⟨⟩; simp (disch := first | omega | assumption | decide | (simp <;> omega) | fail) [facts, e2, e9, e10, e11, e12, e13, e14]) (hI.keep hl (by decide) (by decide))
          · simp (disch := first | omega | assumption | decide | (simp <;> omega) | fail) [facts, e2, e9, e10, e11, e12, e13, e14]
            exact endV_same (by rintro d ⟨⟩; simp (disch := first | omega | assumption | decide | (simp <;> omega) | fail) [facts, e2, e9, e10, e11, e12, e13, e14]) (hI.keep (Heap.le_refl _) (by decide) (by decide))
          · obtain ⟨B', hle', hB', hnx⟩ := hI.snd hg (by decide)
            simp (disch := first | omega | assumption | decide | (simp <;> omega) | fail) [facts, e2, e9, e10, e11, e12, e13, e14]
            refine (rreverse_c hle' hB' (wf.wf (by omega)) (kT x.k) (kS x.k) g).mono ?_
            rintro v H' ⟨rfl, R', ow', hB2⟩
            simp (disch := first | omega | assumption | decide | (simp <;> omega) | fail) [facts, ]
            exact endV_same (by rintro d ⟨⟩; simp (disch := first | omega | assumption | decide | (simp <;> omega) | fail) [facts, e2, e9, e10, e11, e12, e13, e14]) (hnx H' R' ow' hB2)
          · simp (disch := first | omega | assumption | decide | (simp <;> omega) | fail) [facts, e2, e9, e10, e11, e12, e13, e14]
            exact endV_same (by rintro d ⟨⟩; simp (disch := first | omega | assumption | decide | (simp <;> omega) | fail) [facts, e2, e9, e10, e11, e12, e13, e14]) (hI.keep (Heap.le_refl _) (by decide) (by decide))
        
        intro _ g' H4 hall hI
        obtain ⟨A', B', t', hA', hB'⟩ := hI.done (hall 5 (by decide)) (hall 11 (by decide))
        simp only [putAll_cons, putAll_nil]
        simp (disch := first | omega | assumption | decide | (simp <;> omega) | fail) [facts, e2, e9, e10, e11, e12, e13, e14]
        subst hI2
        exact ⟨_, _, A', B', by simp [e2], by simp [e9], by simp [e10], by simp [e11], by simp [e12], t', hA', hB', wf.reverse _ _ _⟩
      · have h3I : ¬ (3 : Int) < (x.w : Int) % 6 := by omega
        simp (disch := first | omega | assumption | decide | (simp <;> omega) | fail) [facts, h3I]
        refine ewp_env fun env3 he => ?_
        have e2' : env3 2 = .slice (some ⟨ab, ao, none⟩) n2 c2 := by rw [he]; simp [e2]
        have e9' : env3 9 = .pointer (some ⟨pa, 0, none⟩) := by rw [he]; simp [e9]
        have e10' : env3 10 = .pointer (some ⟨pb, 0, none⟩) := by rw [he]; simp [e10]
        have e11' : env3 11 = .int .i64 j := by rw [he]; simp [e11]
        have e12' : env3 12 = .pointer (some ⟨kb, 0, none⟩) := by rw [he]; simp [e12]
        have e13' : env3 13 = .int .i64 am := by rw [he]; simp [e13]
        clear he e2 e9 e10 e11 e12 e13
        refine w_vals (C := Unit) (by simp [facts]) (by decide +kernel) (fun _ => [.pointer (some ⟨pa, 0, none⟩), .pointer (some ⟨kb, 1, none⟩), .int .u8 x.k, .agg #[.int .u16 (kT x.k), .int .u32 (kS x.k)], .pointer (some ⟨kb, 2, none⟩), .int .u8 x.p, .string (panS x.p), .int .i64 am, .string (debA F M (kT x.k) (kS x.k) (panS x.p) am), .pointer (some ⟨pb, 0, none⟩), .pointer (some ⟨kb, 1, none⟩), .int .u8 x.k, .agg #[.int .u16 (kT x.k), .int .u32 (kS x.k)], .pointer (some ⟨kb, 2, none⟩), .int .u8 x.p, .string (panS x.p), .int .i64 am, .string (debA F M (kT x.k) (kS x.k) (panS x.p) am), .bool false]) (PI Fk pa pb fm lm F (debF F M (kT x.k) (kS x.k) (panS x.p) am) M (debL F M (kT x.k) (kS x.k) (panS x.p) am) 8 17) () ?_ ?_ ?_
        · exact PI.init twk hA hB
        · simp only [allFrom_cons, allFrom_nil, putAll_cons, putAll_nil]
          refine ⟨?_, ?_, ?_, ?_, ?_, ?_, ?_, ?_, ?_, ?_, ?_, ?_, ?_, ?_, ?_, ?_, ?_, ?_, ?_, trivial⟩
          all_goals (unfold stepV; intro c g' Hx hg hr' hI)
          · simp (disch := first | omega | assumption | decide | (simp <;> omega) | fail) [facts, e2', e9', e10', e11', e12', e13']
            exact endV_same (by rintro d ⟨⟩; simp (disch := first | omega | assumption | decide | (simp <;> omega) | fail) [facts, e2', e9', e10', e11', e12', e13']) (hI.keep (Heap.le_refl _) (by decide) (by decide))
          · simp (disch := first | omega | assumption | decide | (simp <;> omega) | fail) [facts, e2', e9', e10', e11', e12', e13']
            exact endV_same (by rintro d ⟨⟩; simp (disch := first | omega | assumption | decide | (simp <;> omega) | fail) [facts, e2', e9', e10', e11', e12', e13']) (hI.keep (Heap.le_refl _) (by decide) (by decide))
          · have hfx := hI.fle _ _ hFkb
            simp (disch := first | omega | assumption | decide | (simp <;> omega) | fail) [facts, e2', e9', e10', e11', e12', e13', hfx]
            exact endV_same (by rintro d ⟨⟩; simp (disch := first | omega | assumption | decide | (simp <;> omega) | fail) [facts, e2', e9', e10', e11', e12', e13']) (hI.keep (Heap.le_refl _) (by decide) (by decide))
          · simp (disch := first | omega | assumption | decide | (simp <;> omega) | fail) [facts, e2', e9', e10', e11', e12', e13']
            refine (key_c _ x.k xk).mono ?_
            rintro v H' ⟨rfl, hl⟩
            simp (disch := first | omega | assumption | decide | (simp <;> omega) | fail) [facts, ]
            exact endV_same (by rintro d ⟨⟩; simp (disch := first | omega | assumption | decide | (simp <;> omega) | fail) [facts, e2', e9', e10', e11', e12', e13']) (hI.keep hl (by decide) (by decide))
          · simp (disch := first | omega | assumption | decide | (simp <;> omega) | fail) [facts, e2', e9', e10', e11', e12', e13']
            exact endV_same (by rintro d ⟨⟩; simp (disch := first | omega | assumption | decide | (simp <;> omega) | fail) [facts, e2', e9', e10', e11', e12', e13']) (hI.keep (Heap.le_refl _) (by decide) (by decide))
          · have hfx := hI.fle _ _ hFkb
            simp (disch := first | omega | assumption | decide | (simp <;> omega) | fail) [facts, e2', e9', e10', e11', e12', e13', hfx]
            exact endV_same (by rintro d ⟨⟩; simp (disch := first | omega | assumption | decide | (simp <;> omega) | fail) [facts, e2', e9', e10', e11', e12', e13']) (hI.keep (Heap.le_refl _) (by decide) (by decide))
          · simp (disch := first | omega | assumption | decide | (simp <;> omega) | fail) [facts, e2', e9', e10', e11', e12', e13']
            refine (pan_c _ x.p xp).mono ?_
            rintro v H' ⟨rfl, hl⟩
            simp (disch := first | omega | assumption | decide | (simp <;> omega) | fail) [facts, ]
            exact endV_same (by rintro d ⟨⟩; simp (disch := first | omega | assumption | decide | (simp <;> omega) | fail) [facts, e2', e9', e10', e11', e12', e13']) (hI.keep hl (by decide) (by decide))
          · simp (disch := first | omega | assumption | decide | (simp <;> omega) | fail) [facts, e2', e9', e10', e11', e12', e13']
            exact endV_same (by rintro d ⟨⟩; simp (disch := first | omega | assumption | decide | (simp <;> omega) | fail) [facts, e2', e9', e10', e11', e12', e13']) (hI.keep (Heap.le_refl _) (by decide) (by decide))
          · obtain ⟨A', hle', hA', hnx⟩ := hI.fst hg (by decide)
            simp (disch := first | omega | assumption | decide | (simp <;> omega) | fail) [facts, e2', e9', e10', e11', e12', e13']
            refine (debit_c hle' hA' (kT x.k) (kS x.k) (panS x.p) am hdb).mono ?_
            rintro v H' ⟨rfl, R', ow', hA2⟩
            simp (disch := first | omega | assumption | decide | (simp <;> omega) | fail) [facts, ]
            exact endV_same (by rintro d ⟨⟩; simp (disch := first | omega | assumption | decide | (simp <;> omega) | fail) [facts, e2', e9', e10', e11', e12', e13']) (hnx H' R' ow' hA2)
          · simp (disch := first | omega | assumption | decide | (simp <;> omega) | fail) [facts, e2', e9', e10', e11', e12', e13']
            exact endV_same (by rintro d ⟨⟩; simp (disch := first | omega | assumption | decide | (simp <;> omega) | fail) [facts, e2', e9', e10', e11', e12', e13']) (hI.keep (Heap.le_refl _) (by decide) (by decide))
          · simp (disch := first | omega | assumption | decide | (simp <;> omega) | fail) [facts, e2', e9', e10', e11', e12', e13']
            exact endV_same (by rintro d ⟨⟩; simp (disch := first | omega | assumption | decide | (simp <;> omega) | fail) [facts, e2', e9', e10', e11', e12', e13']) (hI.keep (Heap.le_refl _) (by decide) (by decide))
          · have hfx := hI.fle _ _ hFkb
            simp (disch := first | omega | assumption | decide | (simp <;> omega) | fail) [facts, e2', e9', e10', e11', e12', e13', hfx]
            exact endV_same (by rintro d ⟨⟩; simp (disch := first | omega | assumption | decide | (simp <;> omega) | fail) [facts, e2', e9', e10', e11', e12', e13']) (hI.keep (Heap.le_refl _) (by decide) (by decide))
          · simp (disch := first | omega | assumption | decide | (simp <;> omega) | fail) [facts, e2', e9', e10', e11', e12', e13']
            refine (key_c _ x.k xk).mono ?_
            rintro v H' ⟨rfl, hl⟩
            simp (disch := first | omega | assumption | decide | (simp <;> omega) | fail) [facts, ]
            exact endV_same (by rintro d ⟨⟩; simp (disch := first | omega | assumption | decide | (simp <;> omega) | fail) [facts, e2', e9', e10', e11', e12', e13']) (hI.keep hl (by decide) (by decide))
          · simp (disch := first | omega | assumption | decide | (simp <;> omega) | fail) [facts, e2', e9', e10', e11', e12', e13']
            exact endV_same (by rintro d ⟨⟩; simp (disch := first | omega | assumption | decide | (simp <;> omega) | fail) [facts, e2', e9', e10', e11', e12', e13']) (hI.keep (Heap.le_refl _) (by decide) (by decide))
          · have hfx := hI.fle _ _ hFkb
            simp (disch := first | omega | assumption | decide | (simp <;> omega) | fail) [facts, e2', e9', e10', e11', e12', e13', hfx]
            exact endV_same (by rintro d ⟨⟩; simp (disch := first | omega | assumption | decide | (simp <;> omega) | fail) [facts, e2', e9', e10', e11', e12', e13']) (hI.keep (Heap.le_refl _) (by decide) (by decide))
          · simp (disch := first | omega | assumption | decide | (simp <;> omega) | fail) [facts, e2', e9', e10', e11', e12', e13']
            refine (pan_c _ x.p xp).mono ?_
            rintro v H' ⟨rfl, hl⟩
            simp (disch := first | omega | assumption | decide | (simp <;> omega) | fail) [facts, ]
            exact endV_same (by rintro d ⟨⟩; simp (disch := first | omega | assumption | decide | (simp <;> omega) | fail) [facts, e2', e9', e10', e11', e12', e13']) (hI.keep hl (by decide) (by decide))
          · simp (disch := first | omega | assumption | decide | (simp <;> omega) | fail) [facts, e2', e9', e10', e11', e12', e13']
            exact endV_same (by rintro d ⟨⟩; simp (disch := first | omega | assumption | decide | (simp <;> omega) | fail) [facts, e2', e9', e10', e11', e12', e13']) (hI.keep (Heap.le_refl _) (by decide) (by decide))
          · obtain ⟨B', hle', hB', hnx⟩ := hI.snd hg (by decide)
            simp (disch := first | omega | assumption | decide | (simp <;> omega) | fail) [facts, e2', e9', e10', e11', e12', e13']
            refine (rdebit_c hle' hB' (wf.wf (by omega)) (kT x.k) (kS x.k) (panS x.p) am).mono ?_
            rintro v H' ⟨rfl, R', ow', hB2⟩
            simp (disch := first | omega | assumption | decide | (simp <;> omega) | fail) [facts, ]
            exact endV_same (by rintro d ⟨⟩; simp (disch := first | omega | assumption | decide | (simp <;> omega) | fail) [facts, e2', e9', e10', e11', e12', e13']) (hnx H' R' ow' hB2)
          · simp (disch := first | omega | assumption | decide | (simp <;> omega) | fail) [facts, e2', e9', e10', e11', e12', e13']
            exact endV_same (by rintro d ⟨⟩; simp (disch := first | omega | assumption | decide | (simp <;> omega) | fail) [facts, e2', e9', e10', e11', e12', e13']) (hI.keep (Heap.le_refl _) (by decide) (by decide))
        
        intro _ g' H4 hall hI
        obtain ⟨A', B', t', hA', hB'⟩ := hI.done (hall 8 (by decide)) (hall 17 (by decide))
        simp only [putAll_cons, putAll_nil]
        simp (disch := first | omega | assumption | decide | (simp <;> omega) | fail) [facts, e2', e9', e10', e11', e12', e13']
        subst hI2
        exact ⟨_, _, A', B', by simp [e2'], by simp [e9'], by simp [e10'], by simp [e11'], by simp [e12'], t', hA', hB', wf.debit _ _ _ _⟩
    rintro ⟨env3, G3⟩ hS
    subst hI2
    clear e2 e9 e10 e11 e12 e13
    obtain ⟨F', M', A', B', e2, e9, e10, e11, e12, hPl⟩ := hS
    simp only at e2 e9 e10 e11 e12 hPl
    obtain ⟨tw3, hA3, hB3, wf3⟩ := hPl
    have hnf := wf3.nf
    obtain ⟨v0, v1, v2, v3, v4, v5, hr, hlst⟩ := hB3.open
    obtain ⟨a1', c1', rfl, hs1, _⟩ := (hlst.get (i := 1) rfl rfl).sl tw3.ble
    simp only [rxs] at hs1
    have hpb := tw3.ble _ _ hr
    simp only at hpb
    have hfb : ∀ y ∈ F', 0 ≤ y.2 ∧ y.2 ≤ 10000000000000 := fun y hy => by have := wf3.fb y hy; omega
    have hsb : ∀ k, k ≤ 64 → 0 ≤ sumF (F'.take k) ∧ sumF (F'.take k) ≤ 640000000000000 := fun k hk => by
      have := sumF_bound (by decide) hfb k
      omega
    simp (disch := first | omega | assumption | decide | (simp <;> omega) | fail) [facts, e2, e9, e10, e11, e12]
    refine w_loop (pl4Inv G3 (some ⟨ab, ao, none⟩) n2 c2 pa pb kb j F') (fun st => F'.length - (intOf (st.env 16)).toNat) ?_ ?_
    · exact ⟨0, Nat.zero_le _, by simp [e2], by simp [e9], by simp [e10], by simp [e11], by simp [e12], by simp [sumF], by simp, rfl⟩
    clear e2 e9 e10 e11 e12
    rintro ⟨env4, G4⟩ ⟨k, hk, e2, e9, e10, e11, e12, e15, e16, hG4⟩
    simp only at e2 e9 e10 e11 e12 e15 e16 hG4
    subst hG4
    by_cases hlt4 : k < F'.length
    · have hltI4 : (k : Int) < (F'.length : Int) := by omega
      obtain ⟨y, hy⟩ : ∃ y, F'[k]? = some y := ⟨_, List.getElem?_eq_getElem hlt4⟩
      obtain ⟨b1', o1', rfl⟩ := hs1.lit (by omega)
      have ry : rd1U (G4 b1') (o1' + k) = some (.int .i64 y.2) := by
        have := hs1.at (f := fun y : Acc => Value.int .i64 y.2) hy
        exact this
      have hsk := hsb k (by omega)
      have hyb := hfb y (List.mem_of_getElem? hy)
      have hst := sumF_take hy
      obtain ⟨S, hS⟩ : ∃ S, S = sumF (F'.take k) := ⟨_, rfl⟩
      rw [← hS] at e15 hsk hst
      simp (disch := first | omega | assumption | decide | (simp <;> omega) | fail) [facts, e2, e9, e10, e11, e12, e15, e16, hpb, hltI4, ry]
      exact ⟨_, Heap.le_refl _, ⟨k + 1, by omega, by simp [e2], by simp [e9], by simp [e10], by simp [e11], by simp [e12], by rw [hst]; simp, by simp, rfl⟩, by simp [intOf, e16]; omega⟩
    have hkl : k = F'.length := by omega
    subst hkl
    rw [List.take_length] at e15
    simp (disch := first | omega | assumption | decide | (simp <;> omega) | fail) [facts, e2, e9, e10, e11, e12, e15, e16, hpb]
    refine ewp_env fun env5 he => ?_
    have e2' : env5 2 = .slice (some ⟨ab, ao, none⟩) n2 c2 := by rw [he]; simp [e2]
    have e9' : env5 9 = .pointer (some ⟨pa, 0, none⟩) := by rw [he]; simp [e9]
    have e10' : env5 10 = .pointer (some ⟨pb, 0, none⟩) := by rw [he]; simp [e10]
    have e11' : env5 11 = .int .i64 j := by rw [he]; simp [e11]
    have e12' : env5 12 = .pointer (some ⟨kb, 0, none⟩) := by rw [he]; simp [e12]
    have e15' : env5 15 = .int .i64 (sumF F') := by rw [he]; simp [e15]
    clear he e2 e9 e10 e11 e12 e15 e16
    refine w_vals (C := Unit) (by simp [facts]) (by decide +kernel) (fun _ => [.pointer (some ⟨pa, 0, none⟩), .pointer (some ⟨kb, 1, none⟩), .int .u8 x.k, .agg #[.int .u16 (kT x.k), .int .u32 (kS x.k)], .int .i64 (netE (kT x.k) (kS x.k) M'), .pointer (some ⟨pb, 0, none⟩), .pointer (some ⟨kb, 1, none⟩), .int .u8 x.k, .agg #[.int .u16 (kT x.k), .int .u32 (kS x.k)], .int .i64 (netE (kT x.k) (kS x.k) M'), .bool false, .bool false, .pointer (some ⟨pa, 0, none⟩), .int .i64 (sumF F'), .int .i64 (sumF F'), .bool false, .bool false]) (fun _ _ Hx => TwoO Fk A' B' Hx) () ?_ ?_ ?_
    · exact tw3
    · simp only [allFrom_cons, allFrom_nil, putAll_cons, putAll_nil]
      refine ⟨?_, ?_, ?_, ?_, ?_, ?_, ?_, ?_, ?_, ?_, ?_, ?_, ?_, ?_, ?_, ?_, ?_, trivial⟩
      all_goals (unfold stepV; intro c g' Hx hg hr' hI)
      · simp (disch := first | omega | assumption | decide | (simp <;> omega) | fail) [facts, e2', e9', e10', e11', e12', e15']
        exact endV_same (by rintro d ⟨⟩; simp (disch := first | omega | assumption | decide | (simp <;> omega) | fail) [facts, e2', e9', e10', e11', e12', e15']) hI
      · simp (disch := first | omega | assumption | decide | (simp <;> omega) | fail) [facts, e2', e9', e10', e11', e12', e15']
        exact endV_same (by rintro d ⟨⟩; simp (disch := first | omega | assumption | decide | (simp <;> omega) | fail) [facts, e2', e9', e10', e11', e12', e15']) hI
      · have hfx := hI.fle _ _ hFkb
        simp (disch := first | omega | assumption | decide | (simp <;> omega) | fail) [facts, e2', e9', e10', e11', e12', e15', hfx]
        exact endV_same (by rintro d ⟨⟩; simp (disch := first | omega | assumption | decide | (simp <;> omega) | fail) [facts, e2', e9', e10', e11', e12', e15']) hI
      · simp (disch := first | omega | assumption | decide | (simp <;> omega) | fail) [facts, e2', e9', e10', e11', e12', e15']
        refine (key_c _ x.k xk).mono ?_
        rintro v H' ⟨rfl, hl⟩
        simp (disch := first | omega | assumption | decide | (simp <;> omega) | fail) [facts, ]
        exact endV_same (by rintro d ⟨⟩; simp (disch := first | omega | assumption | decide | (simp <;> omega) | fail) [facts, e2', e9', e10', e11', e12', e15']) (hI.grow hl)
      · simp (disch := first | omega | assumption | decide | (simp <;> omega) | fail) [facts, e2', e9', e10', e11', e12', e15']
        refine (net_c hI.ale hA3 (kT x.k) (kS x.k)).mono ?_
        rintro v H' ⟨rfl, hl⟩
        simp (disch := first | omega | assumption | decide | (simp <;> omega) | fail) [facts, ]
        exact endV_same (by rintro d ⟨⟩; simp (disch := first | omega | assumption | decide | (simp <;> omega) | fail) [facts, e2', e9', e10', e11', e12', e15']) (hI.grow hl)
      · simp (disch := first | omega | assumption | decide | (simp <;> omega) | fail) [facts, e2', e9', e10', e11', e12', e15']
        exact endV_same (by rintro d ⟨⟩; simp (disch := first | omega | assumption | decide | (simp <;> omega) | fail) [facts, e2', e9', e10', e11', e12', e15']) hI
      · simp (disch := first | omega | assumption | decide | (simp <;> omega) | fail) [facts, e2', e9', e10', e11', e12', e15']
        exact endV_same (by rintro d ⟨⟩; simp (disch := first | omega | assumption | decide | (simp <;> omega) | fail) [facts, e2', e9', e10', e11', e12', e15']) hI
      · have hfx := hI.fle _ _ hFkb
        simp (disch := first | omega | assumption | decide | (simp <;> omega) | fail) [facts, e2', e9', e10', e11', e12', e15', hfx]
        exact endV_same (by rintro d ⟨⟩; simp (disch := first | omega | assumption | decide | (simp <;> omega) | fail) [facts, e2', e9', e10', e11', e12', e15']) hI
      · simp (disch := first | omega | assumption | decide | (simp <;> omega) | fail) [facts, e2', e9', e10', e11', e12', e15']
        refine (key_c _ x.k xk).mono ?_
        rintro v H' ⟨rfl, hl⟩
        simp (disch := first | omega | assumption | decide | (simp <;> omega) | fail) [facts, ]
        exact endV_same (by rintro d ⟨⟩; simp (disch := first | omega | assumption | decide | (simp <;> omega) | fail) [facts, e2', e9', e10', e11', e12', e15']) (hI.grow hl)
      · simp (disch := first | omega | assumption | decide | (simp <;> omega) | fail) [facts, e2', e9', e10', e11', e12', e15']
        refine (rnet_c hI.ble hB3 (kT x.k) (kS x.k) (by have := wf3.nl; omega)).mono ?_
        rintro v H' ⟨rfl, hl⟩
        simp (disch := first | omega | assumption | decide | (simp <;> omega) | fail) [facts, ]
        exact endV_same (by rintro d ⟨⟩; simp (disch := first | omega | assumption | decide | (simp <;> omega) | fail) [facts, e2', e9', e10', e11', e12', e15']) (hI.grow hl)
      · simp (disch := first | omega | assumption | decide | (simp <;> omega) | fail) [facts, e2', e9', e10', e11', e12', e15']
        exact endV_same (by rintro d ⟨⟩; simp (disch := first | omega | assumption | decide | (simp <;> omega) | fail) [facts, e2', e9', e10', e11', e12', e15']) hI
      · simp (disch := first | omega | assumption | decide | (simp <;> omega) | fail) [facts, e2', e9', e10', e11', e12', e15']
        exact endV_same (by rintro d ⟨⟩; simp (disch := first | omega | assumption | decide | (simp <;> omega) | fail) [facts, e2', e9', e10', e11', e12', e15']) hI
      · simp (disch := first | omega | assumption | decide | (simp <;> omega) | fail) [facts, e2', e9', e10', e11', e12', e15']
        exact endV_same (by rintro d ⟨⟩; simp (disch := first | omega | assumption | decide | (simp <;> omega) | fail) [facts, e2', e9', e10', e11', e12', e15']) hI
      · simp (disch := first | omega | assumption | decide | (simp <;> omega) | fail) [facts, e2', e9', e10', e11', e12', e15']
        refine (total_c hI.ale hA3 hnf hfb).mono ?_
        rintro v H' ⟨rfl, hl⟩
        simp (disch := first | omega | assumption | decide | (simp <;> omega) | fail) [facts, ]
        exact endV_same (by rintro d ⟨⟩; simp (disch := first | omega | assumption | decide | (simp <;> omega) | fail) [facts, e2', e9', e10', e11', e12', e15']) (hI.grow hl)
      · simp (disch := first | omega | assumption | decide | (simp <;> omega) | fail) [facts, e2', e9', e10', e11', e12', e15']
        exact endV_same (by rintro d ⟨⟩; simp (disch := first | omega | assumption | decide | (simp <;> omega) | fail) [facts, e2', e9', e10', e11', e12', e15']) hI
      · simp (disch := first | omega | assumption | decide | (simp <;> omega) | fail) [facts, e2', e9', e10', e11', e12', e15']
        exact endV_same (by rintro d ⟨⟩; simp (disch := first | omega | assumption | decide | (simp <;> omega) | fail) [facts, e2', e9', e10', e11', e12', e15']) hI
      · simp (disch := first | omega | assumption | decide | (simp <;> omega) | fail) [facts, e2', e9', e10', e11', e12', e15']
        exact endV_same (by rintro d ⟨⟩; simp (disch := first | omega | assumption | decide | (simp <;> omega) | fail) [facts, e2', e9', e10', e11', e12', e15']) hI
    
    intro _ g' H5 hall hI
    simp only [putAll_cons, putAll_nil]
    simp (disch := first | omega | assumption | decide | (simp <;> omega) | fail) [facts, e2', e9', e10', e11', e12', e15']
    exact ⟨_, Heap.le_refl _, ⟨j + 1, F', M', A', B', by omega, by simp [e2'], by simp [e9'], by simp [e10'], by simp, hI.less hHF, hA3, hB3, wf3⟩, by simp [intOf, e11']; omega⟩
  have hjn : j = n2 := by omega
  subst hjn
  have hnf := wf.nf
  obtain ⟨v0, v1, v2, v3, v4, v5, hr, hlst⟩ := hB.open
  simp (disch := first | omega | assumption | decide | (simp <;> omega) | fail) [facts, e2, e9, e10, e11]
  refine w_loop (pl6Inv H0 pa pb fm lm j F M A B) (fun st => 4 - (intOf (st.env 17)).toNat) ?_ ?_
  · exact ⟨0, by omega, by simp [e9], by simp [e10], by simp, two⟩
  clear two e2 e9 e10 e11
  rintro ⟨env2, G2⟩ ⟨q, hq, e9, e10, e17, two⟩
  simp only at e9 e10 e17 two
  by_cases hq4 : q < 4
  · have hq4I : (q : Int) < 4 := by omega
    simp (disch := first | omega | assumption | decide | (simp <;> omega) | fail) [facts, e9, e10, e17, hq4I]
    refine (pan_c G2 q (by omega)).mono ?_
    rintro v G3 ⟨rfl, hle3⟩
    have tw3 := two.grow hle3
    simp (disch := first | omega | assumption | decide | (simp <;> omega) | fail) [facts, e9, e10, e17]
    refine (funds_c tw3.ale hA (panS q)).mono ?_
    rintro v G4 ⟨rfl, hle4⟩
    have tw4 := tw3.grow hle4
    obtain ⟨a0', c0', rfl, hs0, _⟩ := (hlst.get (i := 0) rfl rfl).sl tw4.ble
    obtain ⟨a1', c1', rfl, hs1, _⟩ := (hlst.get (i := 1) rfl rfl).sl tw4.ble
    simp only [rxs] at hs0 hs1
    have hpb := tw4.ble _ _ hr
    simp only at hpb
    simp (disch := first | omega | assumption | decide | (simp <;> omega) | fail) [facts, e9, e10, e17, hpb]
    refine w_loop (pl8Inv H0 pa pb F q ((gF (panS q) F).getD 0) (gF (panS q) F).isSome A B) (fun st => (intOf (st.env 21) + 1).toNat) ?_ ?_
    · exact ⟨F.length, Nat.le_refl _, by simp [e9], by simp [e10], by simp [e17], by simp, by simp, by rw [idD_none]; simp, by simp, tw4⟩
    clear e9 e10 e17
    rintro ⟨env3, G5⟩ ⟨m, hm, e9, e10, e17, e18, e19, e20, e21, tw5⟩
    simp only at e9 e10 e17 e18 e19 e20 e21 tw5
    have hpb5 := tw5.ble _ _ hr
    simp only at hpb5
    by_cases hm0 : 0 < m
    · obtain ⟨k, rfl⟩ : ∃ k, m = k + 1 := ⟨m - 1, by omega⟩
      have e21' : env3 21 = .int .i64 (k : Int) := by rw [e21]; congr 1; omega
      obtain ⟨y, hy⟩ : ∃ y, F[k]? = some y := ⟨_, List.getElem?_eq_getElem (by omega)⟩
      have hls0 := hlst.get (i := 0) rfl rfl
      have hltI : (k : Int) < (F.length : Int) := by omega
      obtain ⟨ab, ao, rfl⟩ := hs0.lit (by omega)
      have ry : ∀ Hx, TwoO H0 A B Hx → rd1U (Hx ab) (ao + k) = some (.string y.1) := fun Hx t' => by
        obtain ⟨a9, c9, e, hs9, _⟩ := hls0.sl t'.ble
        simp only [Value.slice.injEq] at e
        obtain ⟨rfl, _, _⟩ := e
        simp only [rxs] at hs9
        have := hs9.at (f := fun y : Acc => Value.string y.1) hy
        exact this
      have hstep := idD_step (pan := panS q) hy
      simp (disch := first | omega | assumption | decide | (simp <;> omega) | fail) [facts, e9, e10, e17, e18, e19, e20, e21']
      refine ewp_env fun env4 he => ?_
      have f9 : env4 9 = .pointer (some ⟨pa, 0, none⟩) := by rw [he]; simp [e9]
      have f10 : env4 10 = .pointer (some ⟨pb, 0, none⟩) := by rw [he]; simp [e10]
      have f17 : env4 17 = .int .u8 q := by rw [he]; simp [e17]
      have f18 : env4 18 = .int .i64 ((gF (panS q) F).getD 0) := by rw [he]; simp [e18]
      have f19 : env4 19 = .bool (gF (panS q) F).isSome := by rw [he]; simp [e19]
      have f20 : env4 20 = .int .i64 (idD (panS q) F (k + 1)) := by rw [he]; simp [e20]
      have f21 : env4 21 = .int .i64 k := by rw [he]; simp [e21']
      clear he e9 e10 e17 e18 e19 e20 e21 e21'
      refine w_vals (C := Unit) (by simp [facts]) (by decide +kernel) (fun _ => [.pointer (some ⟨pb, 0, none⟩), .pointer (some ⟨pb, 0, none⟩), .pointer (some ⟨pb, 0, none⟩), .slice (some ⟨ab, ao, none⟩) F.length c0', .int .i64 k, .pointer (some ⟨ab, ao + k, none⟩), .string y.1, .int .u8 q, .string (panS q), .bool (decide (y.1 = panS q))]) (fun _ _ Hx => TwoO H0 A B Hx) () ?_ ?_ ?_
      · exact tw5
      · simp only [allFrom_cons, allFrom_nil, putAll_cons, putAll_nil]
        refine ⟨?_, ?_, ?_, ?_, ?_, ?_, ?_, ?_, ?_, ?_, trivial⟩
        all_goals (unfold stepV; intro c g' Hx hg hr' hI)
        · simp (disch := first | omega | assumption | decide | (simp <;> omega) | fail) [facts, f9, f10, f17, f21]
          exact endV_same (by rintro d ⟨⟩; simp (disch := first | omega | assumption | decide | (simp <;> omega) | fail) [facts, f9, f10, f17, f21]) hI
        · simp (disch := first | omega | assumption | decide | (simp <;> omega) | fail) [facts, f9, f10, f17, f21]
          exact endV_same (by rintro d ⟨⟩; simp (disch := first | omega | assumption | decide | (simp <;> omega) | fail) [facts, f9, f10, f17, f21]) hI
        · simp (disch := first | omega | assumption | decide | (simp <;> omega) | fail) [facts, f9, f10, f17, f21]
          exact endV_same (by rintro d ⟨⟩; simp (disch := first | omega | assumption | decide | (simp <;> omega) | fail) [facts, f9, f10, f17, f21]) hI
        · have hfx := hI.ble _ _ hr
          simp only at hfx
          simp (disch := first | omega | assumption | decide | (simp <;> omega) | fail) [facts, f9, f10, f17, f21, hfx]
          exact endV_same (by rintro d ⟨⟩; simp (disch := first | omega | assumption | decide | (simp <;> omega) | fail) [facts, f9, f10, f17, f21]) hI
        · simp (disch := first | omega | assumption | decide | (simp <;> omega) | fail) [facts, f9, f10, f17, f21]
          exact endV_same (by rintro d ⟨⟩; simp (disch := first | omega | assumption | decide | (simp <;> omega) | fail) [facts, f9, f10, f17, f21]) hI
        · have hfx := hltI
          simp (disch := first | omega | assumption | decide | (simp <;> omega) | fail) [facts, f9, f10, f17, f21, hfx]
          exact endV_same (by rintro d ⟨⟩; simp (disch := first | omega | assumption | decide | (simp <;> omega) | fail) [facts, f9, f10, f17, f21]) hI
        · have hfx := ry _ hI
          simp (disch := first | omega | assumption | decide | (simp <;> omega) | fail) [facts, f9, f10, f17, f21, hfx]
          exact endV_same (by rintro d ⟨⟩; simp (disch := first | omega | assumption | decide | (simp <;> omega) | fail) [facts, f9, f10, f17, f21]) hI
        · simp (disch := first | omega | assumption | decide | (simp <;> omega) | fail) [facts, f9, f10, f17, f21]
          exact endV_same (by rintro d ⟨⟩; simp (disch := first | omega | assumption | decide | (simp <;> omega) | fail) [facts, f9, f10, f17, f21]) hI
        · simp (disch := first | omega | assumption | decide | (simp <;> omega) | fail) [facts, f9, f10, f17, f21]
          refine (pan_c _ q (by omega)).mono ?_
          rintro v H' ⟨rfl, hl⟩
          simp (disch := first | omega | assumption | decide | (simp <;> omega) | fail) [facts, ]
          exact endV_same (by rintro d ⟨⟩; simp (disch := first | omega | assumption | decide | (simp <;> omega) | fail) [facts, f9, f10, f17, f21]) (hI.grow hl)
        · simp (disch := first | omega | assumption | decide | (simp <;> omega) | fail) [facts, f9, f10, f17, f21]
          exact endV_same (by rintro d ⟨⟩; simp (disch := first | omega | assumption | decide | (simp <;> omega) | fail) [facts, f9, f10, f17, f21]) hI
      
      intro _ g' H5 hall hI
      simp only [putAll_cons, putAll_nil]
      by_cases hyp : y.1 = panS q
      · rw [if_pos hyp] at hstep
        simp only [hyp, decide_true]
        simp (disch := first | omega | assumption | decide | (simp <;> omega) | fail) [facts, f9, f10, f17, f18, f19, f20, f21]
        exact ⟨_, Heap.le_refl _, ⟨k, by omega, by simp [f9], by simp [f10], by simp [f17], by simp [f18], by simp [f19], by rw [hstep]; simp, by simp, hI⟩, by simp [intOf, f21]⟩
      · rw [if_neg hyp] at hstep
        simp only [hyp, decide_false]
        simp (disch := first | omega | assumption | decide | (simp <;> omega) | fail) [facts, f9, f10, f17, f18, f19, f20, f21]
        exact ⟨_, Heap.le_refl _, ⟨k, by omega, by simp [f9], by simp [f10], by simp [f17], by simp [f18], by simp [f19], by rw [hstep]; simp [f20], by simp, hI⟩, by simp [intOf, f21]⟩
    have hm00 : m = 0 := by omega
    subst hm00
    have e21' : env3 21 = .int .i64 (-1) := by rw [e21]; rfl
    rw [idD_zero] at e20
    cases hix : idxF (panS q) F with
    | none =>
      have hg : gF (panS q) F = none := by unfold gF; rw [hix]; rfl
      rw [hix] at e20
      rw [hg] at e18 e19
      simp only [idI] at e20
      simp (disch := first | omega | assumption | decide | (simp <;> omega) | fail) [facts, e9, e10, e17, e18, e19, e20, e21']
      exact ⟨_, Heap.le_refl _, ⟨q + 1, by omega, by simp [e9], by simp [e10], by simp, tw5⟩, by simp [intOf, e17]; omega⟩
    | some k =>
      obtain ⟨v, hv⟩ := idxF_lt hix
      have hg : gF (panS q) F = some v := gF_at hix hv
      have hkl := (List.getElem?_eq_some_iff.1 hv).1
      rw [hix] at e20
      rw [hg] at e18 e19
      simp only [idI] at e20
      have hltI : (k : Int) < (F.length : Int) := by omega
      have k0 : (0 : Int) ≤ (k : Int) := by omega
      have hls1 := hlst.get (i := 1) rfl rfl
      obtain ⟨ab, ao, rfl⟩ := hs1.lit (by omega)
      have ry : rd1U (G5 ab) (ao + k) = some (.int .i64 v) := by
        obtain ⟨a9, c9, e, hs9, _⟩ := hls1.sl tw5.ble
        simp only [Value.slice.injEq] at e
        obtain ⟨rfl, _, _⟩ := e
        simp only [rxs] at hs9
        have := hs9.at (f := fun y : Acc => Value.int .i64 y.2) hv
        exact this
      simp (disch := first | omega | assumption | decide | (simp <;> omega) | fail) [facts, e9, e10, e17, e18, e19, e20, e21', hpb5, hltI, k0, ry]
      exact ⟨_, Heap.le_refl _, ⟨q + 1, by omega, by simp [e9], by simp [e10], by simp, tw5⟩, by simp [intOf, e17]; omega⟩
  · have hqq : q = 4 := by omega
    subst hqq
    simp (disch := first | omega | assumption | decide | (simp <;> omega) | fail) [facts, e9, e10, e17]
    exact ⟨_, Heap.le_refl _⟩
end Go.Proofs.Ytdeffhibolcebaa.GL
