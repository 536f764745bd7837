/- Layer 3: the walk of DiskCuts. -/
import Derived.Test.YtobkfpohdknggaaDiF
namespace Go.Proofs.Ytobkfpohdknggaa.GL
open Go Go.RowKit
set_option maxRecDepth 10000
set_option pp.deepTerms.threshold 8
set_option pp.maxSteps 3000
set_option linter.unusedSimpArgs false
set_option linter.unusedVariables false

def thereS : Sec := secOf [116, 104, 101, 114, 101]
/-- What stays: sector 0 as it was synced, and nothing that waits is of it. -/
structure CutOk (d : DZ) (m i : Nat) : Prop where
  k3 : d.kept.length = 3
  k0 : d.kept[0]? = some thereS
  no : ∀ x ∈ d.wait, x.n ≠ 0
  few : d.wait.length ≤ i
  st : (i ≤ m ∧ d.down = false ∧ d.left = ((m + 1 - i : Nat) : Int)) ∨ (m < i ∧ d.down = true)
theorem applyW_0 (ws : List Wr) : ∀ k : List Sec, (∀ x ∈ ws, x.n ≠ 0) → (applyW k ws)[0]? = k[0]? := by
  induction ws with
  | nil => intro k _; rfl
  | cons w ws ih =>
    intro k h
    show (applyW (k.set w.n w.s) ws)[0]? = _
    rw [ih _ (fun x hx => h x (List.mem_cons_of_mem _ hx)), List.getElem?_set_ne (h w (by simp))]
theorem crashW_0 (ks : List Bool) (last : Int) (t : Nat) (ws : List Wr) (kept : List Sec) (h : ∀ x ∈ ws, x.n ≠ 0) : ∀ i, (crashW ks last t ws kept i)[0]? = kept[0]?
  | 0 => rfl
  | i + 1 => by
    unfold crashW
    split
    · rename_i x hx
      have hx0 := h x (List.mem_of_getElem? hx)
      unfold stepW
      split
      · rw [List.getElem?_set_ne hx0]; exact crashW_0 ks last t ws kept h i
      · split
        · rw [List.getElem?_set_ne hx0]; exact crashW_0 ks last t ws kept h i
        · exact crashW_0 ks last t ws kept h i
    · exact crashW_0 ks last t ws kept h i
section
variable {d : DZ} {m i : Nat}
theorem CutOk.pow (h : CutOk d m i) (hi : i ≤ m) : powZ d = { d with left := ((m - i : Nat) : Int), down := decide (i = m) } := by
  rcases h.st with ⟨_, h1, h2⟩ | ⟨h1, _⟩
  · unfold powZ
    rw [if_pos (by omega), h2]
    congr 1
    · omega
    · have : (((m + 1 - i : Nat) : Int) = 1) = (i = m) := by apply propext; omega
      simp only [this]
  · omega
theorem CutOk.write (h : CutOk d m i) (j : Nat) (hj : j = 1 ∨ j = 2) (bs : List UInt8) : writeE d j = (if m ≤ i then 22 else 0) ∧ CutOk (writeD d j bs) m (i + 1) := by
  have hk := h.k3
  rcases h.st with ⟨h1, h2, h3⟩ | ⟨h1, h2⟩
  · have ho : outZ d j = 0 := by simp [outZ, h2]; omega
    have hp := h.pow h1
    by_cases him : i = m
    · subst him
      have hd1 : (powZ d).down = true := by rw [hp]; simp
      refine ⟨by rw [if_pos (Nat.le_refl _)]; simp [writeE, ho, powE, hd1], ?_⟩
      have : writeD d j bs = powZ d := by simp [writeD, ho, hd1]
      rw [this, hp]
      exact ⟨h.k3, h.k0, h.no, by have := h.few; simp only; omega, .inr ⟨by omega, by simp⟩⟩
    · have hd1 : (powZ d).down = false := by rw [hp]; simp [him]
      refine ⟨by rw [if_neg (by omega)]; simp [writeE, ho, powE, hd1], ?_⟩
      have : writeD d j bs = writeZ d j (secOf bs) := by simp [writeD, ho, hd1]
      rw [this]; unfold writeZ; rw [hp]
      refine ⟨h.k3, h.k0, fun x hx => ?_, by have := h.few; simp; omega, .inl ⟨by omega, by simp [him], by simp only; omega⟩⟩
      rcases List.mem_append.1 hx with hx | hx
      · exact h.no x hx
      · rw [List.mem_singleton] at hx; subst hx; simp only; omega
  · have ho : outZ d j = 22 := by simp [outZ, h2]
    refine ⟨by rw [if_pos (by omega)]; simp [writeE, ho], ?_⟩
    have : writeD d j bs = d := by simp [writeD, ho]
    rw [this]
    exact ⟨h.k3, h.k0, h.no, by have := h.few; omega, .inr ⟨by omega, h2⟩⟩
theorem CutOk.sync (h : CutOk d m i) : syncE d = (if m ≤ i then 22 else 0) ∧ CutOk (syncD d) m (i + 1) := by
  rcases h.st with ⟨h1, h2, h3⟩ | ⟨h1, h2⟩
  · have hp := h.pow h1
    by_cases him : i = m
    · subst him
      have hd1 : (powZ d).down = true := by rw [hp]; simp
      refine ⟨by rw [if_pos (Nat.le_refl _)]; simp [syncE, h2, powE, hd1], ?_⟩
      have : syncD d = powZ d := by simp [syncD, h2, hd1]
      rw [this, hp]
      exact ⟨h.k3, h.k0, h.no, by have := h.few; simp only; omega, .inr ⟨by omega, by simp⟩⟩
    · have hd1 : (powZ d).down = false := by rw [hp]; simp [him]
      refine ⟨by rw [if_neg (by omega)]; simp [syncE, h2, powE, hd1], ?_⟩
      have : syncD d = syncZ d := by simp [syncD, h2, hd1]
      rw [this]; unfold syncZ; rw [hp]
      exact ⟨by rw [applyW_len]; exact h.k3, by rw [applyW_0 _ _ h.no]; exact h.k0, fun x hx => (by cases hx), Nat.zero_le _, .inl ⟨by omega, by simp [him], by simp only; omega⟩⟩
  · refine ⟨by rw [if_pos (by omega)]; simp [syncE, h2], ?_⟩
    have : syncD d = d := by simp [syncD, h2]
    rw [this]
    exact ⟨h.k3, h.k0, h.no, by have := h.few; omega, .inr ⟨by omega, h2⟩⟩
theorem CutOk.dn (h : CutOk d m (i + 1)) : d.down = decide (m ≤ i) := by
  rcases h.st with ⟨h1, h2, h3⟩ | ⟨h1, h2⟩
  · rw [h2]; simp; omega
  · rw [h2]; simp; omega
end
def cutInv (H1 : Heap) (p m w : Nat) (N W : Nat) (a : Option Addr) (n c : Nat) (s : St) : Prop :=
  ∃ (i : Nat) (R1 : Heap) (d : DZ), i ≤ w ∧ s.env 0 = .int .u8 N ∧ s.env 1 = .int .u8 W ∧ s.env 2 = .slice a n c ∧ s.env 7 = .pointer (some ⟨p, 0, none⟩) ∧ s.env 8 = .int .i64 i ∧ Own H1 (fun _ => none) s.heap R1 ∧ Dsk R1 p d ∧ CutOk d m i
set_option maxHeartbeats 2000000 in
theorem diskCuts_c (N W : Nat) (a : Option Addr) (n c : Nat) (bs : List UInt8) (H : Heap) (hb : ByA H a n bs) (hN : N < 256) (hW : W < 256) :
    ECalls Try.prog 5 #[.int .u8 N, .int .u8 W, .slice a n c] H fun r _ => r = .bool true := by
  refine ecalls_of_ewp (args := [_, _, _]) Try.func5 rfl rfl rfl (by simp [Try.ntmps5]) (by kernel_rfl) ?_
  simp (disch := first | omega | assumption | decide | (simp <;> omega) | fail) [facts, ]
  refine (known3_c H).mono ?_
  rintro v H1 ⟨rfl, hle⟩
  by_cases hn : (100 : Int) < (n : Int)
  · simp (disch := first | omega | assumption | decide | (simp <;> omega) | fail) [facts, hn]
    exact ⟨_, Heap.le_refl _⟩
  obtain ⟨m, hm⟩ : ∃ m : Nat, (N : Int) % 10 = (m : Int) := ⟨N % 10, by omega⟩
  obtain ⟨w, hw⟩ : ∃ w : Nat, (W : Int) % 14 = (w : Int) := ⟨W % 14, by omega⟩
  have hm10 : m < 10 := by omega
  have hw14 : w < 14 := by omega
  simp (disch := first | omega | assumption | decide | (simp <;> omega) | fail) [facts, hn]
  refine (diskNew_c H1 3).mono ?_
  rintro v H2 ⟨p, R1, rfl, ow1, d1⟩
  replace d1 : Dsk R1 p (newZ 3) := d1
  simp (disch := first | omega | assumption | decide | (simp <;> omega) | fail) [facts, ]
  refine fresh_intro fun b1 hb1 => ?_
  have l1 := upd_same H2 b1 (.row false 0 [.int .u8 116, .int .u8 104, .int .u8 101, .int .u8 114, .int .u8 101] 0)
  have ow1' := ow1.grow (le_upd (.row false 0 [.int .u8 116, .int .u8 104, .int .u8 101, .int .u8 114, .int .u8 101] 0) hb1)
  have n1 := ow1.fresh hb1
  simp (disch := first | omega | assumption | decide | (simp <;> omega) | fail) [facts, upd_upd]
  generalize upd H2 b1 (.row false 0 [.int .u8 116, .int .u8 104, .int .u8 101, .int .u8 114, .int .u8 101] 0) = G1 at *
  refine (diskWrite_c ow1'.le d1 (oneH_le l1) (oneH_off n1) 0 (a := some ⟨b1, 0, none⟩) (n := 5) (bs := [116, 104, 101, 114, 101]) (.inl (SlA.row (upd_same _ _ _) (Nat.le_refl _) rfl (by decide) rfl)) (by decide) (by decide)).mono ?_
  rintro v H3 ⟨rfl, R3, ow3, d3⟩
  replace ow3 := ow1'.trans ow3
  rw [show writeE (newZ 3) 0 = 0 from rfl]
  replace d3 : Dsk R3 p ⟨[secOf [], secOf [], secOf []], [thereS, secOf [], secOf []], [⟨0, thereS⟩], -1, false⟩ := d3
  simp (disch := first | omega | assumption | decide | (simp <;> omega) | fail) [facts, ]
  refine (diskSync_c ow3.le d3 (by decide)).mono ?_
  rintro v H4 ⟨rfl, R4, ow4, d4⟩
  replace ow4 := ow3.trans ow4
  rw [show syncE ⟨[secOf [], secOf [], secOf []], [thereS, secOf [], secOf []], [⟨0, thereS⟩], -1, false⟩ = 0 from rfl]
  replace d4 : Dsk R4 p ⟨[thereS, secOf [], secOf []], [thereS, secOf [], secOf []], [], -1, false⟩ := d4
  simp (disch := first | omega | assumption | decide | (simp <;> omega) | fail) [facts, hm]
  refine (diskCut_c ow4.le d4 ((m : Int) + 1) (by omega)).mono ?_
  rintro v H5 ⟨R5, ow5, d5⟩
  replace ow5 := ow4.trans ow5
  have hc0 : CutOk (cutZ ⟨[thereS, secOf [], secOf []], [thereS, secOf [], secOf []], [], -1, false⟩ ((m : Int) + 1)) m 0 :=
    ⟨rfl, rfl, fun x hx => (by cases hx), Nat.le_refl _, .inl ⟨Nat.zero_le _, by simp [cutZ]; omega, by simp [cutZ]; omega⟩⟩
  simp (disch := first | omega | assumption | decide | (simp <;> omega) | fail) [facts, hm]
  refine w_loop (cutInv H1 p m w N W a n c) (fun s => w - (intOf (s.env 8)).toNat) ?_ ?_
  · exact ⟨0, R5, _, Nat.zero_le _, by simp, by simp, by simp, by simp, by simp, ow5, d5, hc0⟩
  clear ow5 d5 hc0 ow4 d4 ow3 d3 ow1' ow1 d1 l1
  rintro ⟨env, G⟩ ⟨i, R1, d, hi, e0, e1, e2, e7, e8, ow1, d1, hc⟩
  simp only at e0 e1 e2 e7 e8 ow1
  have hfew := hc.few
  by_cases hlt : i < w
  · have hltI : (i : Int) < (w : Int) := by omega
    obtain ⟨I, hI⟩ : ∃ I : St → Prop, I = (fun s => ∃ R2 d2, s.env 0 = .int .u8 N ∧ s.env 1 = .int .u8 W ∧ s.env 2 = .slice a n c ∧ s.env 7 = .pointer (some ⟨p, 0, none⟩) ∧ s.env 8 = .int .i64 i ∧ s.env 9 = .int .i64 (if m ≤ i then 22 else 0) ∧ Own H1 (fun _ => none) s.heap R2 ∧ Dsk R2 p d2 ∧ CutOk d2 m (i + 1)) := ⟨_, rfl⟩
    simp (disch := first | omega | assumption | decide | (simp <;> omega) | fail) [facts, e0, e1, e2, e7, e8, hw, hltI]
    refine cond_cut3 I ?_ ?_
    · by_cases h3 : (i : Int) % 3 = 2
      · obtain ⟨s1, s2⟩ := hc.sync
        simp (disch := first | omega | assumption | decide | (simp <;> omega) | fail) [facts, e0, e1, e2, e7, e8, h3]
        refine (diskSync_c ow1.le d1 (by omega)).mono ?_
        rintro v H6 ⟨rfl, R6, ow6, d6⟩
        simp (disch := first | omega | assumption | decide | (simp <;> omega) | fail) [facts, e0, e1, e2, e7, e8, s1]
        subst hI
        exact ⟨R6, _, by simp [e0], by simp [e1], by simp [e2], by simp [e7], by simp [e8], by simp, ow1.trans ow6, d6, s2⟩
      · obtain ⟨j, hj⟩ : ∃ j : Nat, 1 + (i : Int) % 2 = (j : Int) := ⟨1 + i % 2, by omega⟩
        obtain ⟨s1, s2⟩ := hc.write j (by omega) bs
        simp (disch := first | omega | assumption | decide | (simp <;> omega) | fail) [facts, e0, e1, e2, e7, e8, h3, hj]
        refine (diskWrite_c ow1.le d1 ow1.all ow1.off j (hb.le hle) (by omega) (by omega)).mono ?_
        rintro v H6 ⟨rfl, R6, ow6, d6⟩
        simp (disch := first | omega | assumption | decide | (simp <;> omega) | fail) [facts, e0, e1, e2, e7, e8, s1]
        subst hI
        exact ⟨R6, _, by simp [e0], by simp [e1], by simp [e2], by simp [e7], by simp [e8], by simp, ow1.trans ow6, d6, s2⟩
    subst hI
    clear e0 e1 e2 e7 e8 ow1 d1 hc hfew
    rintro ⟨env, G⟩ ⟨R2, d2, e0, e1, e2, e7, e8, e9, ow2, d2', hc⟩
    simp only at e0 e1 e2 e7 e8 e9 ow2
    have hdn := hc.dn
    by_cases hmi : m ≤ i
    · have hmI : (m : Int) ≤ (i : Int) := by omega
      rw [if_pos hmi] at e9
      simp only [hmi, decide_true] at hdn
      simp (disch := first | omega | assumption | decide | (simp <;> omega) | fail) [facts, e0, e1, e2, e7, e8, e9, hm, hmI]
      refine (diskDown_c ow2.le d2').mono ?_
      rintro v H7 ⟨rfl, rfl⟩
      simp (disch := first | omega | assumption | decide | (simp <;> omega) | fail) [facts, e0, e1, e2, e7, e8, e9, hdn]
      exact ⟨_, Heap.le_refl _, ⟨i + 1, R2, d2, by omega, by simp [e0], by simp [e1], by simp [e2], by simp [e7], by simp, ow2, d2', hc⟩, by simp [intOf]; omega⟩
    · have hmI : ¬ (m : Int) ≤ (i : Int) := by omega
      rw [if_neg hmi] at e9
      simp only [hmi, decide_false] at hdn
      simp (disch := first | omega | assumption | decide | (simp <;> omega) | fail) [facts, e0, e1, e2, e7, e8, e9, hm, hmI]
      refine (diskDown_c ow2.le d2').mono ?_
      rintro v H7 ⟨rfl, rfl⟩
      simp (disch := first | omega | assumption | decide | (simp <;> omega) | fail) [facts, e0, e1, e2, e7, e8, e9, hdn]
      exact ⟨_, Heap.le_refl _, ⟨i + 1, R2, d2, by omega, by simp [e0], by simp [e1], by simp [e2], by simp [e7], by simp, ow2, d2', hc⟩, by simp [intOf]; omega⟩
  · have hltI : ¬ (i : Int) < (w : Int) := by omega
    simp (disch := first | omega | assumption | decide | (simp <;> omega) | fail) [facts, e0, e1, e2, e7, e8, hw, hltI]
    refine (diskDown_c ow1.le d1).mono ?_
    rintro v H7 ⟨rfl, rfl⟩
    obtain ⟨I, hI⟩ : ∃ I : St → Prop, I = (fun s => s.env 7 = .pointer (some ⟨p, 0, none⟩) ∧ Own H1 (fun _ => none) s.heap R1) := ⟨_, rfl⟩
    simp (disch := first | omega | assumption | decide | (simp <;> omega) | fail) [facts, e0, e1, e2, e7, e8]
    refine cond_cut3 I ?_ ?_
    · cases hdn : d.down with
      | true =>
        have ho : outZ d 0 = 22 := by simp [outZ, hdn]
        have cr := diskRead_out ow1.le d1 0 (by rw [ho]; decide)
        rw [ho] at cr
        simp (disch := first | omega | assumption | decide | (simp <;> omega) | fail) [facts, e7]
        refine cr.mono ?_
        rintro v H8 ⟨rfl, rfl⟩
        simp (disch := first | omega | assumption | decide | (simp <;> omega) | fail) [facts, e7]
        subst hI
        exact ⟨by simp [e7], ow1⟩
      | false =>
        simp (disch := first | omega | assumption | decide | (simp <;> omega) | fail) [facts, e7]
        subst hI
        exact ⟨by simp [e7], ow1⟩
    subst hI
    clear e0 e1 e2 e7 e8 ow1
    rintro ⟨env, G⟩ ⟨e7, ow1⟩
    simp only at e7 ow1
    simp (disch := first | omega | assumption | decide | (simp <;> omega) | fail) [facts, e7]
    refine (diskReopen_c ow1.le d1 (F := fun _ => none) (fun _ _ h => by cases h) Off.nil.symm (a := none) (n := 0) (c := 0) (ks := []) (.inl (SlA.nil _ _)) 0 (by decide) (by omega)).mono ?_
    rintro v H8 ⟨R8, ow8, d8⟩
    replace ow8 := ow1.trans ow8
    generalize hst : reopenZ d [] 0 = st at d8
    have hdn : st.down = false := by rw [← hst]; rfl
    have hnow : st.now[0]? = some thereS := by
      rw [← hst]
      show (crashW _ _ _ _ _ _)[0]? = _
      rw [crashW_0 _ _ _ _ _ hc.no]; exact hc.k0
    clear hst
    simp (disch := first | omega | assumption | decide | (simp <;> omega) | fail) [facts, e7]
    refine (diskRead_in ow8.le d8 0 hdn hnow).mono ?_
    rintro v H9 ⟨hle9, a9, c9, rfl, out9⟩
    obtain ⟨_, _, e, sl9, hc9⟩ := out9.sl2
    simp only [Value.slice.injEq] at e
    obtain ⟨rfl, _, rfl⟩ := e
    obtain ⟨q9, o9, rfl⟩ := sl9.lit (by decide)
    have r5 : rd1U (H9 q9) (o9 + 5) = some (.int .u8 0) := sl9.get 5 (by decide)
    have s5 : SlA H9 (some ⟨q9, o9, none⟩) 5 1 ([116, 104, 101, 114, 101].map u8V) := sl9.take (m := 5) (by decide)
    have ow9 := ow8.grow hle9
    have hc5 : (5 : Int) ≤ (c9 : Int) := by omega
    simp (disch := first | omega | assumption | decide | (simp <;> omega) | fail) [facts, e7, r5, hc5, conv_bytes (P := Try.prog) (el := 5) (by simp [facts]) s5]
    refine (diskDown_c ow9.le d8).mono ?_
    rintro v H10 ⟨rfl, rfl⟩
    simp (disch := first | omega | assumption | decide | (simp <;> omega) | fail) [facts, hdn]
    exact ⟨_, Heap.le_refl _⟩
end Go.Proofs.Ytobkfpohdknggaa.GL
