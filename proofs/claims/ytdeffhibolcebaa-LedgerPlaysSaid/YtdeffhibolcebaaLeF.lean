/- Layer 21: New. -/
import Derived.Test.YtdeffhibolcebaaLeE
namespace Go.Proofs.Ytdeffhibolcebaa.GL
open Go Go.RowKit Go.MapKept
set_option maxRecDepth 10000
set_option pp.deepTerms.threshold 8
set_option pp.maxSteps 3000
set_option linter.unusedSimpArgs false
set_option linter.unusedVariables false

def clampAt (fs : List Int) (i : Nat) : Int := match fs[i]? with | some v => min (max v 0) 1000000000000 | none => 0
def stepF (fs : List Int) (F : List Acc) (i : Nat) (p : ByteArray) : List Acc := if (gF p F).isSome ∨ 64 ≤ F.length then F else F ++ [(p, clampAt fs i)]
def mkN (fs : List Int) (ps : List ByteArray) : Nat → List Acc
  | 0 => []
  | k + 1 => match ps[k]? with | some p => stepF fs (mkN fs ps k) k p | none => mkN fs ps k
theorem lenMap {P : Program} {k e : TypeId} {r : Nat} {es : List (Value × Value)} {G : Heap} (h : G r = some (.map es)) : qLenU P (.map k e) (.map (some r)) G = some (.int .i64 es.length) := by
  unfold qLenU; simp [h]
theorem setM_new {p : ByteArray} {F : List Acc} {v : Int} (h : gF p F = none) : setM p v F = F ++ [(p, v)] := by
  unfold setM gF at *
  cases hi : idxF p F with
  | none => rfl
  | some i =>
    obtain ⟨w, hw⟩ := idxF_lt hi
    rw [hi] at h
    simp [hw] at h
def newInv (H : Heap) (a a2 : Option Addr) (n c n2 c2 : Nat) (ps : List ByteArray) (fs : List Int) (p fm lm : Nat) (st : St) : Prop :=
  ∃ k, k ≤ n ∧ st.env 1 = .slice a2 n2 c2 ∧ st.env 5 = .pointer (some ⟨p, 0, none⟩) ∧ st.env 15 = .slice a n c ∧ st.env 16 = .int .i64 n ∧ st.env 17 = .int .i64 k ∧ ∃ R1, Own H (fun _ => none) st.heap R1 ∧ Led R1 p (mkN fs ps k) [] fm lm
theorem new_c (H : Heap) (a a2 : Option Addr) (n c n2 c2 : Nat) (ps : List ByteArray) (fs : List Int) (h1 : SlA H a n 1 (ps.map .string)) (h2 : SlA H a2 n2 1 (fs.map i64V)) (hn : n ≤ 1000000) (hn2 : n2 ≤ 1000000) :
    ECalls Try.prog 8 #[.slice a n c, .slice a2 n2 c2] H fun v H' => ∃ p fm lm R', v = .pointer (some ⟨p, 0, none⟩) ∧ Own H (fun _ => none) H' R' ∧ Led R' p (mkN fs ps n) [] fm lm := by
  refine ecalls_of_ewp (args := [_, _]) Try.func8 rfl rfl rfl (by simp [Try.ntmps8]) (by kernel_rfl) ?_
  have hl1 : ps.length = n := by simpa using h1.len
  have hl2 : fs.length = n2 := by simpa using h2.len
  simp (disch := first | omega | assumption | decide | (simp <;> omega) | fail) [facts, eMakeMap]
  intro fm hfm lm hlm
  refine fresh_intro fun p hp => ?_
  have ow1 : Own H (fun _ => none) (upd H fm (.map [])) (upd (fun _ => none) fm (.map [])) := (Own.nil (Heap.le_refl _)).add hfm _
  have ow2 := ow1.add hlm (.map [])
  have ow3 := ow2.add hp (.row true 0 [.map (some fm), .map (some lm)] 0)
  have hfl : fm ≠ lm := fun e => by subst e; rw [upd_same] at hlm; cases hlm
  have hpl : lm ≠ p := fun e => by subst e; rw [upd_same] at hp; cases hp
  have hpf : fm ≠ p := fun e => by subst e; rw [upd_ne _ _ hfl, upd_same] at hp; cases hp
  simp (disch := first | omega | assumption | decide | (simp <;> omega) | fail) [facts, ]
  refine w_loop (newInv H a a2 n c n2 c2 ps fs p fm lm) (fun st => n - (intOf (st.env 17)).toNat) ?_ ?_
  · refine ⟨0, Nat.zero_le _, by simp, by simp, by simp, by simp, by simp, _, ow3, ⟨⟨upd_same _ _ _, ?_, ?_⟩, hfl⟩⟩
    · rw [upd_ne _ _ hpf, upd_ne _ _ hfl, upd_same]; rfl
    · rw [upd_ne _ _ hpl, upd_same]; rfl
  rintro ⟨env, G⟩ ⟨k, hk, e1, e5, e15, e16, e17, R1, ow, hL⟩
  simp only at e1 e5 e15 e16 e17 ow
  have hp1 := ow.le _ _ hL.row
  have hf1 := ow.le _ _ hL.fs
  by_cases hlt : k < n
  · have hltI : (k : Int) < (n : Int) := by omega
    obtain ⟨x, hx⟩ : ∃ x, ps[k]? = some x := ⟨_, List.getElem?_eq_getElem (by omega)⟩
    obtain ⟨ab, ao, rfl⟩ := h1.lit (by omega)
    have rx : rd1U (G ab) (ao + k) = some (.string x) := (h1.le ow.all).at hx
    have hS : mkN fs ps (k + 1) = stepF fs (mkN fs ps k) k x := by simp only [mkN, hx]
    obtain ⟨F, hF⟩ : ∃ F, F = mkN fs ps k := ⟨_, rfl⟩
    rw [← hF] at hL hf1 hS
    have hlk := lookF2 x hf1
    have hle2 : qLenU Try.prog (.map 9 2) (.map (some fm)) G = some (.int .i64 F.length) := by rw [lenMap hf1]; simp
    have hend : ∀ (env' : Nat → Value) (G' : Heap) R', env' 1 = .slice a2 n2 c2 → env' 5 = .pointer (some ⟨p, 0, none⟩) → env' 15 = .slice (some ⟨ab, ao, none⟩) n c → env' 16 = .int .i64 n → env' 17 = .int .i64 ((k + 1 : Nat) : Int) → Own H (fun _ => none) G' R' → Led R' p (mkN fs ps (k + 1)) [] fm lm → newInv H (some ⟨ab, ao, none⟩) a2 n c n2 c2 ps fs p fm lm ⟨env', G'⟩ :=
      fun env' G' R' a1 a2 a3 a4 a5 a6 a7 => ⟨k + 1, by omega, a1, a2, a3, a4, a5, R', a6, a7⟩
    by_cases hin : (gF x F).isSome = true
    · have hS2 : stepF fs F k x = F := by unfold stepF; rw [if_pos (.inl hin)]
      rw [hin] at hlk
      simp (disch := first | omega | assumption | decide | (simp <;> omega) | fail) [facts, e1, e5, e15, e16, e17, hltI, rx, hp1, hlk]
      refine ⟨_, Heap.le_refl _, hend _ _ R1 (by simp [e1]) (by simp [e5]) (by simp [e15]) (by simp [e16]) (by simp) ow (by rw [hS, hS2]; exact hL), by simp [intOf, e17]; omega⟩
    · have hno : gF x F = none := by simpa using hin
      have hf : (gF x F).isSome = false := by simpa using hin
      rw [hf] at hlk
      by_cases h64 : 64 ≤ F.length
      · have hS2 : stepF fs F k x = F := by unfold stepF; rw [if_pos (.inr h64)]
        have h64I : (64 : Int) ≤ (F.length : Int) := by omega
        simp (disch := first | omega | assumption | decide | (simp <;> omega) | fail) [facts, e1, e5, e15, e16, e17, hltI, rx, hp1, hlk, hle2, h64I]
        refine ⟨_, Heap.le_refl _, hend _ _ R1 (by simp [e1]) (by simp [e5]) (by simp [e15]) (by simp [e16]) (by simp) ow (by rw [hS, hS2]; exact hL), by simp [intOf, e17]; omega⟩
      · have hS2 : stepF fs F k x = F ++ [(x, clampAt fs k)] := by unfold stepF; rw [if_neg (by simp [hf]; omega)]
        have h64I : ¬ (64 : Int) ≤ (F.length : Int) := by omega
        obtain ⟨ow2, hL2⟩ := hL.setF ow (F ++ [(x, clampAt fs k)])
        by_cases hk2 : k < n2
        · have hk2I : (k : Int) < (n2 : Int) := by omega
          obtain ⟨v, hv⟩ : ∃ v, fs[k]? = some v := ⟨_, List.getElem?_eq_getElem (by omega)⟩
          obtain ⟨ab2, ao2, rfl⟩ := h2.lit (by omega)
          have rv : rd1U (G ab2) (ao2 + k) = some (.int .i64 v) := (h2.le ow.all).at hv
          have hc : clampAt fs k = min (max v 0) 1000000000000 := by unfold clampAt; rw [hv]
          simp (disch := first | omega | assumption | decide | (simp <;> omega) | fail) [facts, e1, e5, e15, e16, e17, hltI, rx, hp1, hlk, hle2, h64I, hk2I, rv]
          refine mapsetF x _ hf1 ?_
          rw [setM_new hno, ← hc]
          obtain ⟨F', hF'⟩ : ∃ F', F' = F ++ [(x, clampAt fs k)] := ⟨_, rfl⟩
          rw [← hF'] at ow2 hL2 hS2 ⊢
          simp (disch := first | omega | assumption | decide | (simp <;> omega) | fail) [facts, e17]
          refine ⟨_, Heap.le_refl _, hend _ _ _ (by simp [e1]) (by simp [e5]) (by simp [e15]) (by simp [e16]) (by simp) ow2 (by rw [hS, hS2]; exact hL2), by simp [intOf, e17]; omega⟩
        · have hk2I : ¬ (k : Int) < (n2 : Int) := by omega
          have hc : clampAt fs k = 0 := by unfold clampAt; rw [List.getElem?_eq_none (by omega)]
          simp (disch := first | omega | assumption | decide | (simp <;> omega) | fail) [facts, e1, e5, e15, e16, e17, hltI, rx, hp1, hlk, hle2, h64I, hk2I]
          refine mapsetF x _ hf1 ?_
          rw [setM_new hno, ← hc]
          obtain ⟨F', hF'⟩ : ∃ F', F' = F ++ [(x, clampAt fs k)] := ⟨_, rfl⟩
          rw [← hF'] at ow2 hL2 hS2 ⊢
          simp (disch := first | omega | assumption | decide | (simp <;> omega) | fail) [facts, e17]
          refine ⟨_, Heap.le_refl _, hend _ _ _ (by simp [e1]) (by simp [e5]) (by simp [e15]) (by simp [e16]) (by simp) ow2 (by rw [hS, hS2]; exact hL2), by simp [intOf, e17]; omega⟩
  · have hkn : k = n := by omega
    subst hkn
    simp (disch := first | omega | assumption | decide | (simp <;> omega) | fail) [facts, e1, e5, e15, e16, e17]
    exact ⟨_, Heap.le_refl _, fm, lm, R1, ow, hL⟩
end Go.Proofs.Ytdeffhibolcebaa.GL
