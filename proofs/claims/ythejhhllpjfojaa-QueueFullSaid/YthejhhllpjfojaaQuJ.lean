/- Layer 22: QueueFull, QueueSays. -/
import Derived.Test.YthejhhllpjfojaaQuI
namespace Go.Proofs.Ythejhhllpjfojaa.GL
open Go Go.RowKit
set_option maxRecDepth 10000
set_option pp.deepTerms.threshold 8
set_option pp.maxSteps 3000
set_option linter.unusedSimpArgs false
set_option linter.unusedVariables false

def mkF (j : Nat) : QZ := ⟨0, j, j, true⟩
def fullL (m : Nat) : List QZ := (List.range m).map mkF
theorem fullL_len (m : Nat) : (fullL m).length = m := by simp [fullL]
theorem fullL_get {m j : Nat} (h : j < m) : (fullL m)[j]? = some (mkF j) := by simp [fullL, h]
theorem fullL_succ (m : Nat) : fullL (m + 1) = fullL m ++ [mkF m] := by simp [fullL, List.range_succ]
theorem fullL_none {m : Nat} {i : Nat} (h : m ≤ i) : idxQ 0 i (fullL m) = none := idxQ_all fun j y hy => by
  have hj := (List.getElem?_eq_some_iff.1 hy).1
  rw [fullL_len] at hj
  rw [fullL_get hj] at hy
  cases hy
  simp only [mkF, true_and]; omega
theorem fullL_some {m i : Nat} (h : i < m) : idxQ 0 i (fullL m) = some i := idxQ_first (fullL_get h) ⟨rfl, rfl⟩ fun j y hj hy => by
  rw [fullL_get (by omega)] at hy
  cases hy
  simp only [mkF, true_and]; omega
theorem fullL_erase {m i : Nat} (h : i < m) : idxQ 0 i ((fullL m).eraseIdx i) = none := idxQ_all fun j y hy => by
  rw [List.getElem?_eraseIdx] at hy
  by_cases hji : j < i
  · rw [if_pos hji, fullL_get (by omega)] at hy
    cases hy
    simp only [mkF, true_and]; omega
  · rw [if_neg hji] at hy
    have hj := (List.getElem?_eq_some_iff.1 hy).1
    rw [fullL_len] at hj
    rw [fullL_get hj] at hy
    cases hy
    simp only [mkF, true_and]; omega
def fullInv (H1 : Heap) (p m g : Nat) (s : St) : Prop :=
  ∃ (i : Nat) (R : Heap), i ≤ m ∧ s.env 1 = .int .u8 g ∧ s.env 5 = .pointer (some ⟨p, 0, none⟩) ∧ s.env 6 = .int .i64 m ∧ s.env 7 = .int .i64 i ∧ Own H1 (fun _ => none) s.heap R ∧ Que R p ⟨fullL (min i 64), 0⟩
set_option maxHeartbeats 2000000 in
theorem queueFull_c (n g : Nat) (H : Heap) (hn : n < 256) (hg : g < 256) :
    ECalls Try.prog 4 #[.int .u8 n, .int .u8 g] H fun r _ => r = .bool true := by
  refine ecalls_of_ewp (args := [_, _]) Try.func4 rfl rfl rfl (by simp [Try.ntmps4]) (by kernel_rfl) ?_
  simp (disch := first | omega | assumption | decide | (simp <;> omega) | fail) [facts, ]
  refine (known22_c H).mono ?_
  rintro v H1 ⟨rfl, hle⟩
  simp (disch := first | omega | assumption | decide | (simp <;> omega) | fail) [facts, ]
  refine (queNew_c H1).mono ?_
  rintro v H2 ⟨p, R2, rfl, ow2, d2⟩
  obtain ⟨m, hm⟩ : ∃ m : Nat, 62 + (n : Int) % 5 = (m : Int) := ⟨62 + n % 5, by omega⟩
  have hm66 : 62 ≤ m ∧ m ≤ 66 := by omega
  simp (disch := first | omega | assumption | decide | (simp <;> omega) | fail) [facts, hm]
  refine w_loop (fullInv H1 p m g) (fun s => m - (intOf (s.env 7)).toNat) ?_ ?_
  · exact ⟨0, R2, Nat.zero_le _, by simp, by simp, by simp, by simp, ow2, d2⟩
  clear ow2 d2
  rintro ⟨env, G⟩ ⟨i, R, hi, e1, e5, e6, e7, ow, d⟩
  simp only at e1 e5 e6 e7 ow
  by_cases hlt : i < m
  · have hltI : (i : Int) < (m : Int) := by omega
    have hw32 : IntKind.u32.wrap (i : Int) = i := wr_u32 (by omega) (by omega)
    have hidx : idxQ 0 i (fullL (min i 64)) = none := fullL_none (by omega)
    simp (disch := first | omega | assumption | decide | (simp <;> omega) | fail) [facts, e1, e5, e6, e7, hltI, hw32]
    refine (quePut_c ow.le d 0 i i (by simp only [fullL_len]; omega)).mono ?_
    rintro v H3 ⟨rfl, R3, ow3, d3⟩
    replace ow3 := ow.trans ow3
    by_cases h64 : i < 64
    · have h64I : (i : Int) < 64 := by omega
      have hE : putE ⟨fullL (min i 64), 0⟩ 0 i = 0 := by
        unfold putE
        simp only [hidx, Option.isSome_none, fullL_len]
        rw [if_neg (by decide), if_neg (by omega)]
      have hD : putD ⟨fullL (min i 64), 0⟩ 0 i i = ⟨fullL (min (i + 1) 64), 0⟩ := by
        unfold putD
        rw [if_pos hE, show min (i + 1) 64 = min i 64 + 1 by omega, fullL_succ, show mkF (min i 64) = ⟨0, i, i, true⟩ by rw [show min i 64 = i by omega]; rfl]
      rw [hD] at d3
      rw [hE]
      simp (disch := first | omega | assumption | decide | (simp <;> omega) | fail) [facts, e1, e5, e6, e7, h64I]
      exact ⟨_, Heap.le_refl _, ⟨i + 1, R3, by omega, by simp [e1], by simp [e5], by simp [e6], by simp, ow3, d3⟩, by simp [intOf]; omega⟩
    · have h64I : ¬ (i : Int) < 64 := by omega
      have hE : putE ⟨fullL (min i 64), 0⟩ 0 i = 21 := by
        unfold putE
        simp only [hidx, Option.isSome_none, fullL_len]
        rw [if_neg (by decide), if_pos (by omega)]
      have hD : putD ⟨fullL (min i 64), 0⟩ 0 i i = ⟨fullL (min (i + 1) 64), 0⟩ := by
        unfold putD
        rw [if_neg (by rw [hE]; decide), show min (i + 1) 64 = min i 64 by omega]
      rw [hD] at d3
      rw [hE]
      simp (disch := first | omega | assumption | decide | (simp <;> omega) | fail) [facts, e1, e5, e6, e7, h64I]
      exact ⟨_, Heap.le_refl _, ⟨i + 1, R3, by omega, by simp [e1], by simp [e5], by simp [e6], by simp, ow3, d3⟩, by simp [intOf]; omega⟩
  · have hie : i = m := by omega
    subst hie
    obtain ⟨M, hM⟩ : ∃ M : Nat, min (i : Int) 64 = (M : Int) := ⟨min i 64, by omega⟩
    have hM2 : min i 64 = M := by omega
    have hM0 : (M : Int) ≠ 0 := by omega
    obtain ⟨k, hk⟩ : ∃ k : Nat, (g : Int) % (M : Int) = (k : Int) := ⟨g % M, by omega⟩
    have hkM : k < M := by
      have := Int.emod_lt_of_pos (g : Int) (show (0 : Int) < M by omega)
      omega
    have hw32 : IntKind.u32.wrap (k : Int) = k := wr_u32 (by omega) (by omega)
    rw [hM2] at d
    simp (disch := first | omega | assumption | decide | (simp <;> omega) | fail) [facts, e1, e5, e6, e7, hM, hM0, hk, hw32]
    refine fresh_intro fun kb hkb => ?_
    have nG := upd_same G kb (.row true 0 [.int .u16 0, .int .u32 k] 0)
    have ow1' := ow.grow (le_upd (.row true 0 [.int .u16 0, .int .u32 k] 0) hkb)
    have nR := le_of_none ow.le hkb
    simp (disch := first | omega | assumption | decide | (simp <;> omega) | fail) [facts, e1, e5, e6, e7, hM, upd_upd]
    generalize upd G kb (.row true 0 [.int .u16 0, .int .u32 k] 0) = G1 at *
    refine (queAll_c ow1'.le d (by simp only [fullL_len]; omega)).mono ?_
    rintro v H3 ⟨R3, ow3, d3, l3⟩
    obtain ⟨nR3, nG3⟩ := ow3.mv kb _ nR nG
    replace ow3 := ow1'.trans ow3
    obtain ⟨_, _, rfl, _, _⟩ := l3.sl ow3.le
    have hs1 : (idxQ 0 k (⟨fullL M, 0⟩ : QS).l).isSome = true := by simp only [fullL_some hkM, Option.isSome_some]
    have hD1 : ackD ⟨fullL M, 0⟩ 0 k = ⟨(fullL M).eraseIdx k, 0⟩ := by unfold ackD; simp only [fullL_some hkM]
    have hel : ((fullL M).eraseIdx k).length = M - 1 := by rw [List.length_eraseIdx, fullL_len, if_pos hkM]
    have hE2 : putE ⟨(fullL M).eraseIdx k, 0⟩ 0 k = 0 := by
      unfold putE
      simp only [fullL_erase hkM, Option.isSome_none, hel]
      rw [if_neg (by decide), if_neg (by omega)]
    have hD2 : putD ⟨(fullL M).eraseIdx k, 0⟩ 0 k 7 = ⟨(fullL M).eraseIdx k ++ [⟨0, k, 7, true⟩], 0⟩ := by
      unfold putD; rw [if_pos hE2]
    have hlen3 : ((fullL M).eraseIdx k ++ [(⟨0, k, 7, true⟩ : QZ)]).length = M := by rw [List.length_append, hel]; simp; omega
    have hfil : (((fullL M).eraseIdx k ++ [(⟨0, k, 7, true⟩ : QZ)]).filter (·.w)).length = M := by
      rw [List.filter_eq_self.2, hlen3]
      intro x hx
      rcases List.mem_append.1 hx with hx | hx
      · have := List.mem_of_mem_eraseIdx hx
        unfold fullL at this
        obtain ⟨j, _, rfl⟩ := List.mem_map.1 this
        rfl
      · rw [List.mem_singleton] at hx; subst hx; rfl
    simp only [fullL_len]
    simp (disch := first | omega | assumption | decide | (simp <;> omega) | fail) [facts, e1, e5, e6, e7, hM, nG3]
    refine (queAck_c ow3.le d3 0 k (by simp only [fullL_len]; omega)).mono ?_
    rintro v H4 ⟨rfl, R4, ow4, d4⟩
    obtain ⟨nR4, nG4⟩ := ow4.mv kb _ nR3 nG3
    replace ow4 := ow3.trans ow4
    rw [hD1] at d4
    rw [hs1]
    simp (disch := first | omega | assumption | decide | (simp <;> omega) | fail) [facts, e1, e5, e6, e7, hM, nG4]
    refine (quePut_c ow4.le d4 0 k 7 (by simp only [hel]; omega)).mono ?_
    rintro v H5 ⟨rfl, R5, ow5, d5⟩
    replace ow5 := ow4.trans ow5
    rw [hD2] at d5
    rw [hE2]
    simp (disch := first | omega | assumption | decide | (simp <;> omega) | fail) [facts, e1, e5, e6, e7, hM]
    refine (queOut_c ow5.le d5 (by simp only [hlen3]; omega)).mono ?_
    rintro v H6 ⟨R6, ow6, d6, l6⟩
    simp only [hfil] at l6
    replace ow6 := ow5.trans ow6
    obtain ⟨_, _, rfl, _, _⟩ := l6.sl ow6.le
    simp (disch := first | omega | assumption | decide | (simp <;> omega) | fail) [facts, e1, e5, e6, e7, hM]
    exact ⟨_, Heap.le_refl _⟩
end Go.Proofs.Ythejhhllpjfojaa.GL
