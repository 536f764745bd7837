/- Layer 21: the document's ledger: New. -/
import Derived.Test.YtdeffhibolcebaaLeP
namespace Go.Proofs.Ytdeffhibolcebaa.GL
open Go Go.RowKit Go.MapKept
set_option maxRecDepth 10000
set_option pp.deepTerms.threshold 8
set_option pp.maxSteps 3000
set_option linter.unusedSimpArgs false
set_option linter.unusedVariables false

theorem rled_nil (p : Nat) : RLed (upd (fun _ => none) p (.row true 0 [.slice none 0 0, .slice none 0 0, .slice none 0 0, .slice none 0 0, .slice none 0 0, .slice none 0 0] 0)) p [] [] := by
  have hall : ∀ (i : Nat) (v : Value), [Value.slice none 0 0, .slice none 0 0, .slice none 0 0, .slice none 0 0, .slice none 0 0, .slice none 0 0][i]? = some v → v = .slice none 0 0 := fun i v h => by
    have := List.mem_of_getElem? h
    simpa using this
  refine ⟨_, upd_same _ _ _, ⟨fun i v x hv hx => ?_, rfl, fun i v hv => by rw [hall i v hv]; simp [blkV], fun i j v w b _ hv _ hb => by rw [hall i v hv] at hb; simp [blkV] at hb⟩⟩
  rw [hall i v hv]
  have := List.mem_of_getElem? hx
  simp [rxs, rowsC] at this
  rcases this with rfl | rfl | rfl <;> exact .inl ⟨rfl, rfl, rfl⟩
theorem mkN_full {fs : List Int} {ps : List ByteArray} {k : Nat} (h : 64 ≤ (mkN fs ps k).length) : ∀ d, mkN fs ps (k + d) = mkN fs ps k
  | 0 => rfl
  | d + 1 => by
    have ih := mkN_full h d
    show mkN fs ps (k + d + 1) = _
    simp only [mkN, ih]
    cases ps[k + d]? with
    | none => rfl
    | some p => simp only [stepF]; rw [if_pos (.inr h)]
def rnewInv (H : Heap) (a a2 : Option Addr) (n c n2 c2 : Nat) (ps : List ByteArray) (fs : List Int) (p : Nat) (st : St) : Prop :=
  ∃ k, k ≤ n ∧ st.env 0 = .slice a n c ∧ st.env 1 = .slice a2 n2 c2 ∧ st.env 5 = .pointer (some ⟨p, 0, none⟩) ∧ st.env 6 = .int .i64 k ∧ ∃ R1, Own H (fun _ => none) st.heap R1 ∧ RLed R1 p (mkN fs ps k) []
theorem mkN_len (fs : List Int) (ps : List ByteArray) : ∀ k, (mkN fs ps k).length ≤ 64
  | 0 => by simp [mkN]
  | k + 1 => by
    have ih := mkN_len fs ps k
    simp only [mkN]
    cases ps[k]? with
    | none => exact ih
    | some p =>
      simp only [stepF]
      split
      · exact ih
      · rename_i h; rw [List.length_append]; simp; omega
set_option maxHeartbeats 4000000 in
theorem rnew_c (H : Heap) (a a2 : Option Addr) (n c n2 c2 : Nat) (ps : List ByteArray) (fs : List Int) (h1 : SlA H a n 1 (ps.map .string)) (h2 : SlA H a2 n2 1 (fs.map i64V)) (hn : n ≤ 1000000) (hn2 : n2 ≤ 1000000) :
    ECalls Try.prog 9 #[.slice a n c, .slice a2 n2 c2] H fun v H' => ∃ p R', v = .pointer (some ⟨p, 0, none⟩) ∧ Own H (fun _ => none) H' R' ∧ RLed R' p (mkN fs ps n) [] := by
  refine ecalls_of_ewp (args := [_, _]) Try.func9 rfl rfl rfl (by simp [Try.ntmps9]) (by kernel_rfl) ?_
  have hl1 : ps.length = n := by simpa using h1.len
  have hl2 : fs.length = n2 := by simpa using h2.len
  simp (disch := first | omega | assumption | decide | (simp <;> omega) | fail) [facts, ]
  refine fresh_intro fun p hp => ?_
  have ow0 := Own.new (Heap.le_refl H) (o := .row true 0 [.slice none 0 0, .slice none 0 0, .slice none 0 0, .slice none 0 0, .slice none 0 0, .slice none 0 0] 0) hp
  simp (disch := first | omega | assumption | decide | (simp <;> omega) | fail) [facts, ]
  refine w_loop (rnewInv H a a2 n c n2 c2 ps fs p) (fun st => n - (intOf (st.env 6)).toNat) ?_ ?_
  · exact ⟨0, Nat.zero_le _, by simp, by simp, by simp, by simp, _, ow0, rled_nil p⟩
  clear ow0
  rintro ⟨env, G⟩ ⟨k, hk, e0, e1, e5, e6, R1, ow, hL⟩
  simp only at e0 e1 e5 e6 ow
  obtain ⟨v0, v1, v2, v3, v4, v5, hr, hl⟩ := hL.open
  obtain ⟨F, hF⟩ : ∃ F, F = mkN fs ps k := ⟨_, rfl⟩
  rw [← hF] at hL hl
  obtain ⟨a0, c0, rfl, _, _⟩ := (hl.get (i := 0) rfl rfl).sl ow.le
  have hp1 := ow.le _ _ hr
  simp only at hp1
  by_cases hlt : k < n
  · have hltI : (k : Int) < (n : Int) := by omega
    by_cases h64 : 64 ≤ F.length
    · have h64I : ¬ (F.length : Int) < 64 := by omega
      have hfull : mkN fs ps n = F := by
        have := mkN_full (fs := fs) (ps := ps) (k := k) (by rw [← hF]; exact h64) (n - k)
        rw [show k + (n - k) = n by omega] at this
        rw [this, hF]
      simp (disch := first | omega | assumption | decide | (simp <;> omega) | fail) [facts, e0, e1, e5, e6, hltI, hp1, h64I]
      exact ⟨_, Heap.le_refl _, R1, ow, by rw [hfull]; exact hL⟩
    have h64I : (F.length : Int) < 64 := by omega
    obtain ⟨x, hx⟩ : ∃ x, ps[k]? = some x := ⟨_, List.getElem?_eq_getElem (by omega)⟩
    have hS : mkN fs ps (k + 1) = stepF fs F k x := by simp only [mkN, hx, ← hF]
    obtain ⟨ab, ao, rfl⟩ := h1.lit (by omega)
    have rx : ∀ G', Heap.le H G' → rd1U (G' ab) (ao + k) = some (.string x) := fun G' hle => (h1.le hle).at hx
    have rxG := rx G ow.all
    simp (disch := first | omega | assumption | decide | (simp <;> omega) | fail) [facts, e0, e1, e5, e6, hltI, hp1, h64I, rxG]
    refine (account_c ow.le hL x (by omega)).mono ?_
    rintro v G1 ⟨rfl, rfl⟩
    cases hix : idxF x F with
    | some j =>
      have hS2 : stepF fs F k x = F := by unfold stepF gF; rw [if_pos (.inl (by obtain ⟨w, hw⟩ := idxF_lt hix; rw [hix]; simp [hw]))]
      have j0 : (0 : Int) ≤ (j : Int) := by omega
      simp only [idI]
      simp (disch := first | omega | assumption | decide | (simp <;> omega) | fail) [facts, j0, e6]
      exact ⟨_, Heap.le_refl _, ⟨k + 1, by omega, by simp [e0], by simp [e1], by simp [e5], by simp, R1, ow, by rw [hS, hS2]; exact hL⟩, by simp [intOf, e6]; omega⟩
    | none =>
      have hg : gF x F = none := by unfold gF; rw [hix]; rfl
      have hS2 : stepF fs F k x = F ++ [(x, clampAt fs k)] := by unfold stepF; rw [if_neg (by simp [hg]; omega)]
      simp only [idI]
      by_cases hk2 : k < n2
      · have hk2I : (k : Int) < (n2 : Int) := by omega
        obtain ⟨v, hv⟩ : ∃ v, fs[k]? = some v := ⟨_, List.getElem?_eq_getElem (by omega)⟩
        obtain ⟨ab2, ao2, rfl⟩ := h2.lit (by omega)
        have rv : rd1U (G1 ab2) (ao2 + k) = some (.int .i64 v) := (h2.le ow.all).at hv
        have hc : clampAt fs k = min (max v 0) 1000000000000 := by unfold clampAt; rw [hv]
        simp (disch := first | omega | assumption | decide | (simp <;> omega) | fail) [facts, e0, e1, e5, e6, hk2I, rv]
        refine ewp_env fun env' he => ?_
        have e0' : env' 0 = .slice (some ⟨ab, ao, none⟩) n c := by rw [he]; simp [e0]
        have e1' : env' 1 = .slice (some ⟨ab2, ao2, none⟩) n2 c2 := by rw [he]; simp [e1]
        have e5' : env' 5 = .pointer (some ⟨p, 0, none⟩) := by rw [he]; simp [e5]
        have e6' : env' 6 = .int .i64 k := by rw [he]; simp [e6]
        have e7' : env' 7 = .int .i64 (clampAt fs k) := by rw [he]; simp [hc]
        obtain ⟨P, hP⟩ : ∃ P, P = kp 0 1 5 15 10 17 11 18 21 24 (.slice a0 F.length c0) v1 (1, F.length, F.map fun x => .string x.1) (1, F.length, F.map fun x => .int .i64 x.2) (1, F.length + 1, (F.map fun x => .string x.1) ++ [.string x]) (1, F.length + 1, (F.map fun x => .int .i64 x.2) ++ [.int .i64 (clampAt fs k)]) [.string x] [.int .i64 (clampAt fs k)] := ⟨_, rfl⟩
        have kok : KOk P [.slice a0 F.length c0, v1, v2, v3, v4, v5] (rxs F []) := by
          subst hP
          refine ⟨by simp [kp], fun q => by cases q <;> rfl, fun q => by cases q <;> rfl, fun q r => by cases q <;> cases r <;> simp [kp], fun q => by cases q <;> simp [kp]⟩
        refine w_vals (C := KC) (by simp [facts]) (by decide +kernel) (fun c' => [.pointer (some ⟨p, 0, none⟩), .pointer (some ⟨p, 0, none⟩), .pointer (some ⟨p, 0, none⟩), .pointer (some ⟨p, 0, none⟩), .pointer (some ⟨p, 0, none⟩), .slice a0 F.length c0, .slice (some ⟨ab, ao, none⟩) n c, .int .i64 k, .pointer (some ⟨ab, ao + k, none⟩), .string x, .slice (some ⟨c'.b true, 0, none⟩) 1 1, c'.w true,
          .pointer (some ⟨p, 0, none⟩), .pointer (some ⟨p, 0, none⟩), .pointer (some ⟨p, 1, none⟩), v1, .int .i64 (clampAt fs k), .slice (some ⟨c'.b false, 0, none⟩) 1 1, c'.w false, .pointer (some ⟨p, 0, none⟩), .pointer (some ⟨p, 0, none⟩), undef, .pointer (some ⟨p, 0, none⟩), .pointer (some ⟨p, 1, none⟩), undef]) (KI P G1 R1 p [.slice a0 F.length c0, v1, v2, v3, v4, v5] (rxs F [])) ⟨fun _ => 0, fun _ => undef, R1⟩ ?_ ?_ ?_
        · exact KI.init kok ow.le hr hl _ _
        · simp only [allFrom_cons, allFrom_nil, putAll_cons, putAll_nil]
          refine ⟨?_, ?_, ?_, ?_, ?_, ?_, ?_, ?_, ?_, ?_, ?_, ?_, ?_, ?_, ?_, ?_, ?_, ?_, ?_, ?_, ?_, ?_, ?_, ?_, ?_, trivial⟩
          all_goals (subst hP; unfold stepV; intro c g Hx hg hr' hI)
          · simp (disch := first | omega | assumption | decide | (simp <;> omega) | fail) [facts, e0', e1', e5', e6', e7']
            exact endV_same (by rintro d ⟨⟩; simp (disch := first | omega | assumption | decide | (simp <;> omega) | fail) [facts, e0', e1', e5', e6', e7']) (hI.same 0 (fun q => by cases q <;> simp [kp]))
          · simp (disch := first | omega | assumption | decide | (simp <;> omega) | fail) [facts, e0', e1', e5', e6', e7']
            exact endV_same (by rintro d ⟨⟩; simp (disch := first | omega | assumption | decide | (simp <;> omega) | fail) [facts, e0', e1', e5', e6', e7']) (hI.same 1 (fun q => by cases q <;> simp [kp]))
          · simp (disch := first | omega | assumption | decide | (simp <;> omega) | fail) [facts, e0', e1', e5', e6', e7']
            exact endV_same (by rintro d ⟨⟩; simp (disch := first | omega | assumption | decide | (simp <;> omega) | fail) [facts, e0', e1', e5', e6', e7']) (hI.same 2 (fun q => by cases q <;> simp [kp]))
          · simp (disch := first | omega | assumption | decide | (simp <;> omega) | fail) [facts, e0', e1', e5', e6', e7']
            exact endV_same (by rintro d ⟨⟩; simp (disch := first | omega | assumption | decide | (simp <;> omega) | fail) [facts, e0', e1', e5', e6', e7']) (hI.same 3 (fun q => by cases q <;> simp [kp]))
          · simp (disch := first | omega | assumption | decide | (simp <;> omega) | fail) [facts, e0', e1', e5', e6', e7']
            exact endV_same (by rintro d ⟨⟩; simp (disch := first | omega | assumption | decide | (simp <;> omega) | fail) [facts, e0', e1', e5', e6', e7']) (hI.same 4 (fun q => by cases q <;> simp [kp]))
          · have rf : rd1U (Hx p) 0 = some (.slice a0 F.length c0) := hI.rd kok true hg
            simp (disch := first | omega | assumption | decide | (simp <;> omega) | fail) [facts, e0', e1', e5', e6', e7', rf]
            exact endV_same (by rintro d ⟨⟩; simp (disch := first | omega | assumption | decide | (simp <;> omega) | fail) [facts, e0', e1', e5', e6', e7']) (hI.same 5 (fun q => by cases q <;> simp [kp]))
          · simp (disch := first | omega | assumption | decide | (simp <;> omega) | fail) [facts, e0', e1', e5', e6', e7']
            exact endV_same (by rintro d ⟨⟩; simp (disch := first | omega | assumption | decide | (simp <;> omega) | fail) [facts, e0', e1', e5', e6', e7']) (hI.same 6 (fun q => by cases q <;> simp [kp]))
          · simp (disch := first | omega | assumption | decide | (simp <;> omega) | fail) [facts, e0', e1', e5', e6', e7']
            exact endV_same (by rintro d ⟨⟩; simp (disch := first | omega | assumption | decide | (simp <;> omega) | fail) [facts, e0', e1', e5', e6', e7']) (hI.same 7 (fun q => by cases q <;> simp [kp]))
          · simp (disch := first | omega | assumption | decide | (simp <;> omega) | fail) [facts, e0', e1', e5', e6', e7']
            exact endV_same (by rintro d ⟨⟩; simp (disch := first | omega | assumption | decide | (simp <;> omega) | fail) [facts, e0', e1', e5', e6', e7']) (hI.same 8 (fun q => by cases q <;> simp [kp]))
          · have hfx := rx Hx (hI.own.frame ow.all ow.off).1
            simp (disch := first | omega | assumption | decide | (simp <;> omega) | fail) [facts, e0', e1', e5', e6', e7', hfx]
            exact endV_same (by rintro d ⟨⟩; simp (disch := first | omega | assumption | decide | (simp <;> omega) | fail) [facts, e0', e1', e5', e6', e7']) (hI.same 9 (fun q => by cases q <;> simp [kp]))
          · simp (disch := first | omega | assumption | decide | (simp <;> omega) | fail) [facts, e0', e1', e5', e6', e7']
            refine fresh_intro fun b hb => ?_
            skip
            simp (disch := first | omega | assumption | decide | (simp <;> omega) | fail) [facts, e0', e1', e5', e6', e7']
            have hb2 := hI.build kok true hb
            exact endV_to (c.setb true b) (by rintro d ⟨⟩; simp (disch := first | omega | assumption | decide | (simp <;> omega) | fail) [facts, e0', e1', e5', e6', e7', KC.setb]) (fun t ht => by have ht2 : t ≠ 51 := fun e' => ht (by rw [e']); simp [setE, KC.setb, ht2]) hb2
          · have ga : g 10 = true := hr' ⟨10, .data⟩ (by simp) (by decide)
            simp (disch := first | omega | assumption | decide | (simp <;> omega) | fail) [facts, e0', e1', e5', e6', e7']
            refine hI.app kok true ga hg (e := 9) (nbs := 16) (z := .string ByteArray.empty) (by simp [facts]) (by simp [facts]) (by simp [facts]) (by simp [facts]) (by simp [facts]) (by simp) (by decide) rfl rfl rfl rfl (by omega) ?_
            intro w R' H' hI'
            simp (disch := first | omega | assumption | decide | (simp <;> omega) | fail) [facts, e0', e1', e5', e6', e7']
            exact endV_to (c.setw true w R') (by rintro d ⟨⟩; simp (disch := first | omega | assumption | decide | (simp <;> omega) | fail) [facts, e0', e1', e5', e6', e7', KC.setw]) (fun t ht => by have ht2 : t ≠ 52 := fun e' => ht (by rw [e']); simp [setE, KC.setw, ht2]) hI'
          · simp (disch := first | omega | assumption | decide | (simp <;> omega) | fail) [facts, e0', e1', e5', e6', e7']
            exact endV_same (by rintro d ⟨⟩; simp (disch := first | omega | assumption | decide | (simp <;> omega) | fail) [facts, e0', e1', e5', e6', e7']) (hI.same 12 (fun q => by cases q <;> simp [kp]))
          · simp (disch := first | omega | assumption | decide | (simp <;> omega) | fail) [facts, e0', e1', e5', e6', e7']
            exact endV_same (by rintro d ⟨⟩; simp (disch := first | omega | assumption | decide | (simp <;> omega) | fail) [facts, e0', e1', e5', e6', e7']) (hI.same 13 (fun q => by cases q <;> simp [kp]))
          · simp (disch := first | omega | assumption | decide | (simp <;> omega) | fail) [facts, e0', e1', e5', e6', e7']
            exact endV_same (by rintro d ⟨⟩; simp (disch := first | omega | assumption | decide | (simp <;> omega) | fail) [facts, e0', e1', e5', e6', e7']) (hI.same 14 (fun q => by cases q <;> simp [kp]))
          · have rf : rd1U (Hx p) 1 = some v1 := hI.rd kok false hg
            simp (disch := first | omega | assumption | decide | (simp <;> omega) | fail) [facts, e0', e1', e5', e6', e7', rf]
            exact endV_same (by rintro d ⟨⟩; simp (disch := first | omega | assumption | decide | (simp <;> omega) | fail) [facts, e0', e1', e5', e6', e7']) (hI.same 15 (fun q => by cases q <;> simp [kp]))
          · simp (disch := first | omega | assumption | decide | (simp <;> omega) | fail) [facts, e0', e1', e5', e6', e7']
            exact endV_same (by rintro d ⟨⟩; simp (disch := first | omega | assumption | decide | (simp <;> omega) | fail) [facts, e0', e1', e5', e6', e7']) (hI.same 16 (fun q => by cases q <;> simp [kp]))
          · simp (disch := first | omega | assumption | decide | (simp <;> omega) | fail) [facts, e0', e1', e5', e6', e7']
            refine fresh_intro fun b hb => ?_
            skip
            simp (disch := first | omega | assumption | decide | (simp <;> omega) | fail) [facts, e0', e1', e5', e6', e7']
            have hb2 := hI.build kok false hb
            exact endV_to (c.setb false b) (by rintro d ⟨⟩; simp (disch := first | omega | assumption | decide | (simp <;> omega) | fail) [facts, e0', e1', e5', e6', e7', KC.setb]) (fun t ht => by have ht2 : t ≠ 58 := fun e' => ht (by rw [e']); simp [setE, KC.setb, ht2]) hb2
          · have ga : g 17 = true := hr' ⟨17, .data⟩ (by simp) (by decide)
            simp (disch := first | omega | assumption | decide | (simp <;> omega) | fail) [facts, e0', e1', e5', e6', e7']
            refine hI.app kok false ga hg (e := 2) (nbs := 8) (z := .int .i64 0) (by simp [facts]) (by simp [facts]) (by simp [facts]) (by simp [facts]) (by simp [facts]) (by simp) (by decide) rfl rfl rfl rfl (by omega) ?_
            intro w R' H' hI'
            simp (disch := first | omega | assumption | decide | (simp <;> omega) | fail) [facts, e0', e1', e5', e6', e7']
            exact endV_to (c.setw false w R') (by rintro d ⟨⟩; simp (disch := first | omega | assumption | decide | (simp <;> omega) | fail) [facts, e0', e1', e5', e6', e7', KC.setw]) (fun t ht => by have ht2 : t ≠ 59 := fun e' => ht (by rw [e']); simp [setE, KC.setw, ht2]) hI'
          · simp (disch := first | omega | assumption | decide | (simp <;> omega) | fail) [facts, e0', e1', e5', e6', e7']
            exact endV_same (by rintro d ⟨⟩; simp (disch := first | omega | assumption | decide | (simp <;> omega) | fail) [facts, e0', e1', e5', e6', e7']) (hI.same 19 (fun q => by cases q <;> simp [kp]))
          · simp (disch := first | omega | assumption | decide | (simp <;> omega) | fail) [facts, e0', e1', e5', e6', e7']
            exact endV_same (by rintro d ⟨⟩; simp (disch := first | omega | assumption | decide | (simp <;> omega) | fail) [facts, e0', e1', e5', e6', e7']) (hI.same 20 (fun q => by cases q <;> simp [kp]))
          · have gp : g 11 = true := hr' ⟨11, .data⟩ (by simp) (by decide)
            have gl : g 5 = true := hr' ⟨5, .phase⟩ (by simp) (by decide)
            simp (disch := first | omega | assumption | decide | (simp <;> omega) | fail) [facts, e0', e1', e5', e6', e7']
            refine hI.storeU kok true gp gl rfl ?_
            intro R' H' hI'
            simp (disch := first | omega | assumption | decide | (simp <;> omega) | fail) [facts, e0', e1', e5', e6', e7']
            exact endV_to ⟨c.b, c.w, R'⟩ (by rintro d ⟨⟩) (fun t ht => by dsimp only) hI'
          · simp (disch := first | omega | assumption | decide | (simp <;> omega) | fail) [facts, e0', e1', e5', e6', e7']
            exact endV_same (by rintro d ⟨⟩; simp (disch := first | omega | assumption | decide | (simp <;> omega) | fail) [facts, e0', e1', e5', e6', e7']) (hI.same 22 (fun q => by cases q <;> simp [kp]))
          · simp (disch := first | omega | assumption | decide | (simp <;> omega) | fail) [facts, e0', e1', e5', e6', e7']
            exact endV_same (by rintro d ⟨⟩; simp (disch := first | omega | assumption | decide | (simp <;> omega) | fail) [facts, e0', e1', e5', e6', e7']) (hI.same 23 (fun q => by cases q <;> simp [kp]))
          · have gp : g 18 = true := hr' ⟨18, .data⟩ (by simp) (by decide)
            have gl : g 15 = true := hr' ⟨15, .phase⟩ (by simp) (by decide)
            simp (disch := first | omega | assumption | decide | (simp <;> omega) | fail) [facts, e0', e1', e5', e6', e7']
            refine hI.storeU kok false gp gl rfl ?_
            intro R' H' hI'
            simp (disch := first | omega | assumption | decide | (simp <;> omega) | fail) [facts, e0', e1', e5', e6', e7']
            exact endV_to ⟨c.b, c.w, R'⟩ (by rintro d ⟨⟩) (fun t ht => by dsimp only) hI'
        intro c' g H2 hall hI
        obtain ⟨ow2, row2, lst2⟩ := hI.done (fun q => by subst hP; cases q <;> exact hall _ (by simp [kp]))
        have ev : set2 P [.slice a0 F.length c0, v1, v2, v3, v4, v5] c'.w = [c'.w true, c'.w false, v2, v3, v4, v5] := by subst hP; rfl
        have ex : set2 P (rxs F []) P.x' = rxs (F ++ [(x, clampAt fs k)]) [] := by
          subst hP
          unfold rxs
          simp [set2, kp]
        rw [ev] at row2 lst2
        rw [ex] at lst2
        simp only [putAll_cons, putAll_nil]
        simp (disch := first | omega | assumption | decide | (simp <;> omega) | fail) [facts, e0', e1', e5', e6', e7']
        exact ⟨_, Heap.le_refl _, ⟨k + 1, by omega, by simp [e0'], by simp [e1'], by simp [e5'], by simp, _, ow.trans ow2, by rw [hS, hS2]; exact ⟨_, row2, lst2⟩⟩, by simp [intOf, e6']; omega⟩
      · have hk2I : ¬ (k : Int) < (n2 : Int) := by omega
        have hc : clampAt fs k = 0 := by unfold clampAt; rw [List.getElem?_eq_none (by omega)]
        simp (disch := first | omega | assumption | decide | (simp <;> omega) | fail) [facts, e0, e1, e5, e6, hk2I]
        refine ewp_env fun env' he => ?_
        have e0' : env' 0 = .slice (some ⟨ab, ao, none⟩) n c := by rw [he]; simp [e0]
        have e1' : env' 1 = .slice a2 n2 c2 := by rw [he]; simp [e1]
        have e5' : env' 5 = .pointer (some ⟨p, 0, none⟩) := by rw [he]; simp [e5]
        have e6' : env' 6 = .int .i64 k := by rw [he]; simp [e6]
        have e7' : env' 7 = .int .i64 (clampAt fs k) := by rw [he]; simp [hc]
        obtain ⟨P, hP⟩ : ∃ P, P = kp 0 1 5 15 10 17 11 18 21 24 (.slice a0 F.length c0) v1 (1, F.length, F.map fun x => .string x.1) (1, F.length, F.map fun x => .int .i64 x.2) (1, F.length + 1, (F.map fun x => .string x.1) ++ [.string x]) (1, F.length + 1, (F.map fun x => .int .i64 x.2) ++ [.int .i64 (clampAt fs k)]) [.string x] [.int .i64 (clampAt fs k)] := ⟨_, rfl⟩
        have kok : KOk P [.slice a0 F.length c0, v1, v2, v3, v4, v5] (rxs F []) := by
          subst hP
          refine ⟨by simp [kp], fun q => by cases q <;> rfl, fun q => by cases q <;> rfl, fun q r => by cases q <;> cases r <;> simp [kp], fun q => by cases q <;> simp [kp]⟩
        refine w_vals (C := KC) (by simp [facts]) (by decide +kernel) (fun c' => [.pointer (some ⟨p, 0, none⟩), .pointer (some ⟨p, 0, none⟩), .pointer (some ⟨p, 0, none⟩), .pointer (some ⟨p, 0, none⟩), .pointer (some ⟨p, 0, none⟩), .slice a0 F.length c0, .slice (some ⟨ab, ao, none⟩) n c, .int .i64 k, .pointer (some ⟨ab, ao + k, none⟩), .string x, .slice (some ⟨c'.b true, 0, none⟩) 1 1, c'.w true,
          .pointer (some ⟨p, 0, none⟩), .pointer (some ⟨p, 0, none⟩), .pointer (some ⟨p, 1, none⟩), v1, .int .i64 (clampAt fs k), .slice (some ⟨c'.b false, 0, none⟩) 1 1, c'.w false, .pointer (some ⟨p, 0, none⟩), .pointer (some ⟨p, 0, none⟩), undef, .pointer (some ⟨p, 0, none⟩), .pointer (some ⟨p, 1, none⟩), undef]) (KI P G1 R1 p [.slice a0 F.length c0, v1, v2, v3, v4, v5] (rxs F [])) ⟨fun _ => 0, fun _ => undef, R1⟩ ?_ ?_ ?_
        · exact KI.init kok ow.le hr hl _ _
        · simp only [allFrom_cons, allFrom_nil, putAll_cons, putAll_nil]
          refine ⟨?_, ?_, ?_, ?_, ?_, ?_, ?_, ?_, ?_, ?_, ?_, ?_, ?_, ?_, ?_, ?_, ?_, ?_, ?_, ?_, ?_, ?_, ?_, ?_, ?_, trivial⟩
          all_goals (subst hP; unfold stepV; intro c g Hx hg hr' hI)
          · simp (disch := first | omega | assumption | decide | (simp <;> omega) | fail) [facts, e0', e1', e5', e6', e7']
            exact endV_same (by rintro d ⟨⟩; simp (disch := first | omega | assumption | decide | (simp <;> omega) | fail) [facts, e0', e1', e5', e6', e7']) (hI.same 0 (fun q => by cases q <;> simp [kp]))
          · simp (disch := first | omega | assumption | decide | (simp <;> omega) | fail) [facts, e0', e1', e5', e6', e7']
            exact endV_same (by rintro d ⟨⟩; simp (disch := first | omega | assumption | decide | (simp <;> omega) | fail) [facts, e0', e1', e5', e6', e7']) (hI.same 1 (fun q => by cases q <;> simp [kp]))
          · simp (disch := first | omega | assumption | decide | (simp <;> omega) | fail) [facts, e0', e1', e5', e6', e7']
            exact endV_same (by rintro d ⟨⟩; simp (disch := first | omega | assumption | decide | (simp <;> omega) | fail) [facts, e0', e1', e5', e6', e7']) (hI.same 2 (fun q => by cases q <;> simp [kp]))
          · simp (disch := first | omega | assumption | decide | (simp <;> omega) | fail) [facts, e0', e1', e5', e6', e7']
            exact endV_same (by rintro d ⟨⟩; simp (disch := first | omega | assumption | decide | (simp <;> omega) | fail) [facts, e0', e1', e5', e6', e7']) (hI.same 3 (fun q => by cases q <;> simp [kp]))
          · simp (disch := first | omega | assumption | decide | (simp <;> omega) | fail) [facts, e0', e1', e5', e6', e7']
            exact endV_same (by rintro d ⟨⟩; simp (disch := first | omega | assumption | decide | (simp <;> omega) | fail) [facts, e0', e1', e5', e6', e7']) (hI.same 4 (fun q => by cases q <;> simp [kp]))
          · have rf : rd1U (Hx p) 0 = some (.slice a0 F.length c0) := hI.rd kok true hg
            simp (disch := first | omega | assumption | decide | (simp <;> omega) | fail) [facts, e0', e1', e5', e6', e7', rf]
            exact endV_same (by rintro d ⟨⟩; simp (disch := first | omega | assumption | decide | (simp <;> omega) | fail) [facts, e0', e1', e5', e6', e7']) (hI.same 5 (fun q => by cases q <;> simp [kp]))
          · simp (disch := first | omega | assumption | decide | (simp <;> omega) | fail) [facts, e0', e1', e5', e6', e7']
            exact endV_same (by rintro d ⟨⟩; simp (disch := first | omega | assumption | decide | (simp <;> omega) | fail) [facts, e0', e1', e5', e6', e7']) (hI.same 6 (fun q => by cases q <;> simp [kp]))
          · simp (disch := first | omega | assumption | decide | (simp <;> omega) | fail) [facts, e0', e1', e5', e6', e7']
            exact endV_same (by rintro d ⟨⟩; simp (disch := first | omega | assumption | decide | (simp <;> omega) | fail) [facts, e0', e1', e5', e6', e7']) (hI.same 7 (fun q => by cases q <;> simp [kp]))
          · simp (disch := first | omega | assumption | decide | (simp <;> omega) | fail) [facts, e0', e1', e5', e6', e7']
            exact endV_same (by rintro d ⟨⟩; simp (disch := first | omega | assumption | decide | (simp <;> omega) | fail) [facts, e0', e1', e5', e6', e7']) (hI.same 8 (fun q => by cases q <;> simp [kp]))
          · have hfx := rx Hx (hI.own.frame ow.all ow.off).1
            simp (disch := first | omega | assumption | decide | (simp <;> omega) | fail) [facts, e0', e1', e5', e6', e7', hfx]
            exact endV_same (by rintro d ⟨⟩; simp (disch := first | omega | assumption | decide | (simp <;> omega) | fail) [facts, e0', e1', e5', e6', e7']) (hI.same 9 (fun q => by cases q <;> simp [kp]))
          · simp (disch := first | omega | assumption | decide | (simp <;> omega) | fail) [facts, e0', e1', e5', e6', e7']
            refine fresh_intro fun b hb => ?_
            skip
            simp (disch := first | omega | assumption | decide | (simp <;> omega) | fail) [facts, e0', e1', e5', e6', e7']
            have hb2 := hI.build kok true hb
            exact endV_to (c.setb true b) (by rintro d ⟨⟩; simp (disch := first | omega | assumption | decide | (simp <;> omega) | fail) [facts, e0', e1', e5', e6', e7', KC.setb]) (fun t ht => by have ht2 : t ≠ 51 := fun e' => ht (by rw [e']); simp [setE, KC.setb, ht2]) hb2
          · have ga : g 10 = true := hr' ⟨10, .data⟩ (by simp) (by decide)
            simp (disch := first | omega | assumption | decide | (simp <;> omega) | fail) [facts, e0', e1', e5', e6', e7']
            refine hI.app kok true ga hg (e := 9) (nbs := 16) (z := .string ByteArray.empty) (by simp [facts]) (by simp [facts]) (by simp [facts]) (by simp [facts]) (by simp [facts]) (by simp) (by decide) rfl rfl rfl rfl (by omega) ?_
            intro w R' H' hI'
            simp (disch := first | omega | assumption | decide | (simp <;> omega) | fail) [facts, e0', e1', e5', e6', e7']
            exact endV_to (c.setw true w R') (by rintro d ⟨⟩; simp (disch := first | omega | assumption | decide | (simp <;> omega) | fail) [facts, e0', e1', e5', e6', e7', KC.setw]) (fun t ht => by have ht2 : t ≠ 52 := fun e' => ht (by rw [e']); simp [setE, KC.setw, ht2]) hI'
          · simp (disch := first | omega | assumption | decide | (simp <;> omega) | fail) [facts, e0', e1', e5', e6', e7']
            exact endV_same (by rintro d ⟨⟩; simp (disch := first | omega | assumption | decide | (simp <;> omega) | fail) [facts, e0', e1', e5', e6', e7']) (hI.same 12 (fun q => by cases q <;> simp [kp]))
          · simp (disch := first | omega | assumption | decide | (simp <;> omega) | fail) [facts, e0', e1', e5', e6', e7']
            exact endV_same (by rintro d ⟨⟩; simp (disch := first | omega | assumption | decide | (simp <;> omega) | fail) [facts, e0', e1', e5', e6', e7']) (hI.same 13 (fun q => by cases q <;> simp [kp]))
          · simp (disch := first | omega | assumption | decide | (simp <;> omega) | fail) [facts, e0', e1', e5', e6', e7']
            exact endV_same (by rintro d ⟨⟩; simp (disch := first | omega | assumption | decide | (simp <;> omega) | fail) [facts, e0', e1', e5', e6', e7']) (hI.same 14 (fun q => by cases q <;> simp [kp]))
          · have rf : rd1U (Hx p) 1 = some v1 := hI.rd kok false hg
            simp (disch := first | omega | assumption | decide | (simp <;> omega) | fail) [facts, e0', e1', e5', e6', e7', rf]
            exact endV_same (by rintro d ⟨⟩; simp (disch := first | omega | assumption | decide | (simp <;> omega) | fail) [facts, e0', e1', e5', e6', e7']) (hI.same 15 (fun q => by cases q <;> simp [kp]))
          · simp (disch := first | omega | assumption | decide | (simp <;> omega) | fail) [facts, e0', e1', e5', e6', e7']
            exact endV_same (by rintro d ⟨⟩; simp (disch := first | omega | assumption | decide | (simp <;> omega) | fail) [facts, e0', e1', e5', e6', e7']) (hI.same 16 (fun q => by cases q <;> simp [kp]))
          · simp (disch := first | omega | assumption | decide | (simp <;> omega) | fail) [facts, e0', e1', e5', e6', e7']
            refine fresh_intro fun b hb => ?_
            skip
            simp (disch := first | omega | assumption | decide | (simp <;> omega) | fail) [facts, e0', e1', e5', e6', e7']
            have hb2 := hI.build kok false hb
            exact endV_to (c.setb false b) (by rintro d ⟨⟩; simp (disch := first | omega | assumption | decide | (simp <;> omega) | fail) [facts, e0', e1', e5', e6', e7', KC.setb]) (fun t ht => by have ht2 : t ≠ 58 := fun e' => ht (by rw [e']); simp [setE, KC.setb, ht2]) hb2
          · have ga : g 17 = true := hr' ⟨17, .data⟩ (by simp) (by decide)
            simp (disch := first | omega | assumption | decide | (simp <;> omega) | fail) [facts, e0', e1', e5', e6', e7']
            refine hI.app kok false ga hg (e := 2) (nbs := 8) (z := .int .i64 0) (by simp [facts]) (by simp [facts]) (by simp [facts]) (by simp [facts]) (by simp [facts]) (by simp) (by decide) rfl rfl rfl rfl (by omega) ?_
            intro w R' H' hI'
            simp (disch := first | omega | assumption | decide | (simp <;> omega) | fail) [facts, e0', e1', e5', e6', e7']
            exact endV_to (c.setw false w R') (by rintro d ⟨⟩; simp (disch := first | omega | assumption | decide | (simp <;> omega) | fail) [facts, e0', e1', e5', e6', e7', KC.setw]) (fun t ht => by have ht2 : t ≠ 59 := fun e' => ht (by rw [e']); simp [setE, KC.setw, ht2]) hI'
          · simp (disch := first | omega | assumption | decide | (simp <;> omega) | fail) [facts, e0', e1', e5', e6', e7']
            exact endV_same (by rintro d ⟨⟩; simp (disch := first | omega | assumption | decide | (simp <;> omega) | fail) [facts, e0', e1', e5', e6', e7']) (hI.same 19 (fun q => by cases q <;> simp [kp]))
          · simp (disch := first | omega | assumption | decide | (simp <;> omega) | fail) [facts, e0', e1', e5', e6', e7']
            exact endV_same (by rintro d ⟨⟩; simp (disch := first | omega | assumption | decide | (simp <;> omega) | fail) [facts, e0', e1', e5', e6', e7']) (hI.same 20 (fun q => by cases q <;> simp [kp]))
          · have gp : g 11 = true := hr' ⟨11, .data⟩ (by simp) (by decide)
            have gl : g 5 = true := hr' ⟨5, .phase⟩ (by simp) (by decide)
            simp (disch := first | omega | assumption | decide | (simp <;> omega) | fail) [facts, e0', e1', e5', e6', e7']
            refine hI.storeU kok true gp gl rfl ?_
            intro R' H' hI'
            simp (disch := first | omega | assumption | decide | (simp <;> omega) | fail) [facts, e0', e1', e5', e6', e7']
            exact endV_to ⟨c.b, c.w, R'⟩ (by rintro d ⟨⟩) (fun t ht => by dsimp only) hI'
          · simp (disch := first | omega | assumption | decide | (simp <;> omega) | fail) [facts, e0', e1', e5', e6', e7']
            exact endV_same (by rintro d ⟨⟩; simp (disch := first | omega | assumption | decide | (simp <;> omega) | fail) [facts, e0', e1', e5', e6', e7']) (hI.same 22 (fun q => by cases q <;> simp [kp]))
          · simp (disch := first | omega | assumption | decide | (simp <;> omega) | fail) [facts, e0', e1', e5', e6', e7']
            exact endV_same (by rintro d ⟨⟩; simp (disch := first | omega | assumption | decide | (simp <;> omega) | fail) [facts, e0', e1', e5', e6', e7']) (hI.same 23 (fun q => by cases q <;> simp [kp]))
          · have gp : g 18 = true := hr' ⟨18, .data⟩ (by simp) (by decide)
            have gl : g 15 = true := hr' ⟨15, .phase⟩ (by simp) (by decide)
            simp (disch := first | omega | assumption | decide | (simp <;> omega) | fail) [facts, e0', e1', e5', e6', e7']
            refine hI.storeU kok false gp gl rfl ?_
            intro R' H' hI'
            simp (disch := first | omega | assumption | decide | (simp <;> omega) | fail) [facts, e0', e1', e5', e6', e7']
            exact endV_to ⟨c.b, c.w, R'⟩ (by rintro d ⟨⟩) (fun t ht => by dsimp only) hI'
        intro c' g H2 hall hI
        obtain ⟨ow2, row2, lst2⟩ := hI.done (fun q => by subst hP; cases q <;> exact hall _ (by simp [kp]))
        have ev : set2 P [.slice a0 F.length c0, v1, v2, v3, v4, v5] c'.w = [c'.w true, c'.w false, v2, v3, v4, v5] := by subst hP; rfl
        have ex : set2 P (rxs F []) P.x' = rxs (F ++ [(x, clampAt fs k)]) [] := by
          subst hP
          unfold rxs
          simp [set2, kp]
        rw [ev] at row2 lst2
        rw [ex] at lst2
        simp only [putAll_cons, putAll_nil]
        simp (disch := first | omega | assumption | decide | (simp <;> omega) | fail) [facts, e0', e1', e5', e6', e7']
        exact ⟨_, Heap.le_refl _, ⟨k + 1, by omega, by simp [e0'], by simp [e1'], by simp [e5'], by simp, _, ow.trans ow2, by rw [hS, hS2]; exact ⟨_, row2, lst2⟩⟩, by simp [intOf, e6']; omega⟩
  · have hkn : k = n := by omega
    subst hkn
    simp (disch := first | omega | assumption | decide | (simp <;> omega) | fail) [facts, e0, e1, e5, e6]
    exact ⟨_, Heap.le_refl _, R1, ow, by rw [← hF]; exact hL⟩
end Go.Proofs.Ytdeffhibolcebaa.GL
