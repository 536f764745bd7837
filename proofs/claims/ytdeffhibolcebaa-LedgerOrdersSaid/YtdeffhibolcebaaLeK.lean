/- Layer 21: LedgerOrders, walked. -/
import Derived.Test.YtdeffhibolcebaaLeJ
namespace Go.Proofs.Ytdeffhibolcebaa.GL
open Go Go.RowKit Go.MapKept
set_option maxRecDepth 10000
set_option pp.deepTerms.threshold 8
set_option pp.maxSteps 3000
set_option linter.unusedSimpArgs false
set_option linter.unusedVariables false

theorem TwoO.less {F F' A B H : Heap} (t : TwoO F' A B H) (hl : Heap.le F F') : TwoO F A B H :=
  ⟨Heap.le_trans hl t.fle, t.ale, t.ble, fun i x e => t.fa i x (hl i x e), fun i x e => t.fb i x (hl i x e), t.ab⟩
def amt (zs : List Int) (k : Nat) : Int := (zs[k]?).getD 0
theorem amt_of {zs : List Int} {k : Nat} {x : Int} (h : zs[k]? = some x) : amt zs k = x := by unfold amt; rw [h]; rfl
theorem rot_inj {n T i j : Nat} (hi : i < n) (hji : j < i) (h : (j + T) % n = (i + T) % n) : False := by
  have h1 : ((i + T) - (j + T)) % n = 0 := Nat.sub_mod_eq_zero_of_mod_eq h.symm
  have h2 : (i + T) - (j + T) = i - j := by omega
  rw [h2, Nat.mod_eq_of_lt (by omega)] at h1
  omega
theorem rot_sur {n T k : Nat} (hk : k < n) : ∃ j, j < n ∧ (j + T) % n = k := by
  refine ⟨(k + (n - T % n)) % n, Nat.mod_lt _ (by omega), ?_⟩
  rw [Nat.mod_add_mod]
  have hT : T % n < n := Nat.mod_lt _ (by omega)
  have e : k + (n - T % n) + T = k + n * (1 + T / n) := by
    have := Nat.div_add_mod T n
    rw [Nat.mul_add, Nat.mul_one]
    omega
  rw [e, Nat.add_mul_mod_self_left, Nat.mod_eq_of_lt hk]
structure OrdE (Fr A B : Heap) (a : Option Addr) (n c T pa pb : Nat) (st : St) : Prop where
  e0 : st.env 0 = .slice a n c
  e1 : st.env 1 = .int .u8 T
  e5 : st.env 5 = .pointer (some ⟨pa, 0, none⟩)
  e6 : st.env 6 = .pointer (some ⟨pb, 0, none⟩)
  e7 : st.env 7 = .int .i64 n
  two : TwoO Fr A B st.heap
def ord1Inv (Fr : Heap) (a : Option Addr) (n c T pa pb : Nat) (zs : List Int) (st : St) : Prop :=
  ∃ (i : Nat) (A B : Heap) (NA NB : NN), i ≤ n ∧ OrdE Fr A B a n c T pa pb st ∧ st.env 8 = .int .i64 i ∧ LO A pa n NA ∧ LO B pb n NB ∧ (∀ k, k < i → NA k = some (amt zs k / 3)) ∧ (∀ k, i ≤ k → NA k = none) ∧
    (∀ k x, NB k = some x → x = amt zs k + 1 ∧ ∃ j, j < i ∧ (j + T) % n = k) ∧ (∀ j, j < i → NB ((j + T) % n) = some (amt zs ((j + T) % n) + 1))
def ord2Inv (Fr : Heap) (a : Option Addr) (n c T pa pb : Nat) (zs : List Int) (st : St) : Prop :=
  ∃ (i : Nat) (A B : Heap) (NA NB : NN), i ≤ n ∧ OrdE Fr A B a n c T pa pb st ∧ st.env 10 = .int .i64 ((i : Int) - 1) ∧ LO A pa n NA ∧ LO B pb n NB ∧ (∀ k, k < n → NA k = some (amt zs k / 3)) ∧
    (∀ k, k < i → NB k = some (amt zs k + 1)) ∧ (∀ k, i ≤ k → k < n → NB k = some (amt zs k / 3))
def ord3Inv (Fr : Heap) (a : Option Addr) (n c T pa pb : Nat) (zs : List Int) (NA NB : NN) (A B : Heap) (st : St) : Prop :=
  ∃ (i : Nat), i ≤ n ∧ OrdE Fr A B a n c T pa pb st ∧ st.env 12 = .int .i64 i ∧ st.env 11 = .int .i64 (sumN (fun k => some (amt zs k / 3)) i)
set_option maxHeartbeats 2000000 in
theorem orders_c (a : Option Addr) (n c : Nat) (zs : List Int) (T : Nat) (H : Heap) (h : SlA H a n 1 (zs.map (.int .u16))) (hz : ∀ z ∈ zs, 0 ≤ z ∧ z ≤ 65535) (hT : T < 256) :
    ECalls Try.prog 4 #[.slice a n c, .int .u8 T] H fun r _ => r = .bool true := by
  refine ecalls_of_ewp (args := [_, _]) Try.func4 rfl rfl rfl (by simp [Try.ntmps4]) (by kernel_rfl) ?_
  have hl : zs.length = n := by simpa using h.len
  have hsum : ∀ k, k ≤ n → n ≤ 20 → 0 ≤ sumN (fun k => some (amt zs k / 3)) k ∧ sumN (fun k => some (amt zs k / 3)) k ≤ 1400000 := fun k hk h20 => by
    have := sumN_bound (N := fun k => some (amt zs k / 3)) (B := 70000) k (fun j hj => by
      obtain ⟨y, hy⟩ : ∃ y, zs[j]? = some y := ⟨_, List.getElem?_eq_getElem (by omega)⟩
      have := hz y (List.mem_of_getElem? hy)
      simp only [amt_of hy, Option.getD_some]; omega)
    have h2 : (k : Int) * 70000 ≤ 20 * 70000 := Int.mul_le_mul_of_nonneg_right (by omega) (by decide)
    omega
  simp (disch := first | omega | assumption | decide | (simp <;> omega) | fail) [facts, ]
  refine (known_c H).mono ?_
  rintro v H0 ⟨rfl, hle0⟩
  by_cases h20 : 20 < n
  · have h20I : (20 : Int) < (n : Int) := by omega
    simp (disch := first | omega | assumption | decide | (simp <;> omega) | fail) [facts, h20I]
    exact ⟨_, Heap.le_refl _⟩
  have h20I : ¬ (20 : Int) < (n : Int) := by omega
  simp (disch := first | omega | assumption | decide | (simp <;> omega) | fail) [facts, h20I]
  refine fresh_intro fun b1 hb1 => ?_
  simp (disch := first | omega | assumption | decide | (simp <;> omega) | fail) [facts, ]
  refine fresh_intro fun b2 hb2 => ?_
  simp (disch := first | omega | assumption | decide | (simp <;> omega) | fail) [facts, ]
  refine (lo_new _ b1 b2 n (by omega) (upd_other hb2 (upd_same _ _ _)) (upd_same _ _ _)).mono ?_
  rintro v H1 ⟨pa, A, rfl, owA, hA⟩
  simp (disch := first | omega | assumption | decide | (simp <;> omega) | fail) [facts, ]
  refine fresh_intro fun b3 hb3 => ?_
  simp (disch := first | omega | assumption | decide | (simp <;> omega) | fail) [facts, ]
  refine fresh_intro fun b4 hb4 => ?_
  simp (disch := first | omega | assumption | decide | (simp <;> omega) | fail) [facts, ]
  refine (lo_new _ b3 b4 n (by omega) (upd_other hb4 (upd_same _ _ _)) (upd_same _ _ _)).mono ?_
  rintro v H2 ⟨pb, B, rfl, owB, hB⟩
  have two : TwoO H A B H2 := TwoO.new (Heap.le_trans hle0 (Heap.le_trans (le_upd _ hb1) (le_upd _ hb2))) (owA.grow (Heap.le_trans (le_upd _ hb3) (le_upd _ hb4))) owB
  simp (disch := first | omega | assumption | decide | (simp <;> omega) | fail) [facts, ]
  refine w_loop (ord1Inv H a n c T pa pb zs) (fun st => n - (intOf (st.env 8)).toNat) ?_ ?_
  · exact ⟨0, A, B, _, _, Nat.zero_le _, ⟨by simp, by simp, by simp, by simp, by simp, two⟩, by simp, hA, hB, fun k hk => by omega, fun k _ => rfl, fun k x hx => (by cases hx), fun j hj => by omega⟩
  clear two hB owB hA owA
  rintro ⟨env, G⟩ ⟨i, A, B, NA, NB, hi, ⟨e0, e1, e5, e6, e7, two⟩, e8, hA, hB, hNA, hNA0, hNB, hNB2⟩
  simp only at e0 e1 e5 e6 e7 e8 two
  by_cases hlt : i < n
  · have hltI : (i : Int) < (n : Int) := by omega
    have hn0 : (n : Int) ≠ 0 := by omega
    obtain ⟨ab, ao, rfl⟩ := h.lit (by omega)
    obtain ⟨k, hk⟩ : ∃ k, k = (i + T) % n := ⟨_, rfl⟩
    have hkn : k < n := by rw [hk]; exact Nat.mod_lt _ (by omega)
    have hkI : ((i : Int) + (T : Int)) % (n : Int) = (k : Int) := by rw [hk]; simp
    obtain ⟨x, hx⟩ : ∃ x, zs[i]? = some x := ⟨_, List.getElem?_eq_getElem (by omega)⟩
    obtain ⟨y, hy⟩ : ∃ y, zs[k]? = some y := ⟨_, List.getElem?_eq_getElem (by omega)⟩
    have hxb := hz x (List.mem_of_getElem? hx)
    have hyb := hz y (List.mem_of_getElem? hy)
    have rx := (h.le two.fle).at hx
    rw [at1_lit] at rx
    simp (disch := first | omega | assumption | decide | (simp <;> omega) | fail) [facts, e0, e1, e5, e6, e7, e8, hltI, hn0, hkI, rx]
    refine (lo_debit two.ale hA i hlt (x + 1) (by omega)).mono ?_
    rintro _ G1 ⟨⟨_, rfl⟩, A1, ow1, hA1⟩
    rw [hNA0 i (Nat.le_refl _)] at hA1
    simp only [Option.isSome_none, Bool.false_eq_true, if_false] at hA1
    have two1 := two.left ow1
    have rx1 := (h.le two1.fle).at hx
    rw [at1_lit] at rx1
    simp (disch := first | omega | assumption | decide | (simp <;> omega) | fail) [facts, e0, e1, e5, e6, e7, e8, rx1]
    refine (lo_reverse two1.ale hA1 i hlt (x / 3) (x + 1) (by unfold putN; rw [if_pos rfl]) (by omega)).mono ?_
    rintro _ G2 ⟨⟨_, rfl⟩, A2, ow2, hA2⟩
    rw [if_pos (by omega)] at hA2
    have two2 := two1.left ow2
    have ry2 := (h.le two2.fle).at hy
    rw [at1_lit] at ry2
    simp (disch := first | omega | assumption | decide | (simp <;> omega) | fail) [facts, e0, e1, e5, e6, e7, e8, ry2]
    refine (lo_debit two2.ble hB k hkn (y + 1) (by omega)).mono ?_
    rintro _ G3 ⟨⟨_, rfl⟩, B3, ow3, hB3⟩
    have hNBk : NB k = none := by
      cases hNk : NB k with
      | none => rfl
      | some w =>
        obtain ⟨_, j, hj, hjk⟩ := hNB k w hNk
        exact (rot_inj hlt hj (hjk.trans hk)).elim
    rw [hNBk] at hB3
    simp only [Option.isSome_none, Bool.false_eq_true, if_false] at hB3
    have two3 := two2.right ow3
    have ry3 := (h.le two3.fle).at hy
    rw [at1_lit] at ry3
    simp (disch := first | omega | assumption | decide | (simp <;> omega) | fail) [facts, e0, e1, e5, e6, e7, e8, ry3]
    refine (lo_debit two3.ble hB3 k hkn (y + 9) (by omega)).mono ?_
    rintro _ G4 ⟨⟨_, rfl⟩, B4, ow4, hB4⟩
    rw [if_pos (by unfold putN; simp)] at hB4
    have two4 := two3.right ow4
    simp (disch := first | omega | assumption | decide | (simp <;> omega) | fail) [facts, e8]
    refine ⟨_, Heap.le_refl _, ⟨i + 1, A2, B4, _, _, by omega, ⟨by simp [e0], by simp [e1], by simp [e5], by simp [e6], by simp [e7], two4⟩, by simp, hA2, hB4, ?_, ?_, ?_, ?_⟩, by simp [intOf, e8]; omega⟩
    · intro j hj
      unfold putN
      by_cases hji : j = i
      · subst hji; rw [if_pos rfl, amt_of hx]
      · rw [if_neg hji, if_neg hji]; exact hNA j (by omega)
    · intro j hj
      unfold putN
      rw [if_neg (by omega), if_neg (by omega)]; exact hNA0 j (by omega)
    · intro j w hw
      unfold putN at hw
      by_cases hjk : j = k
      · rw [if_pos hjk] at hw; cases hw; rw [hjk, amt_of hy]
        exact ⟨rfl, i, by omega, hk.symm⟩
      · rw [if_neg hjk] at hw
        obtain ⟨h1, j', h2, h3⟩ := hNB j w hw
        exact ⟨h1, j', by omega, h3⟩
    · intro j hj
      unfold putN
      by_cases hji : j = i
      · subst hji; rw [if_pos hk.symm, ← hk, amt_of hy]
      · have hne : (j + T) % n ≠ k := fun e => rot_inj hlt (by omega) (e.trans hk)
        rw [if_neg hne]; exact hNB2 j (by omega)
  have hin : i = n := by omega
  subst hin
  have hNBa : ∀ k, k < i → NB k = some (amt zs k + 1) := fun k hk => by
    obtain ⟨j, hj, hjk⟩ := rot_sur (T := T) hk
    have := hNB2 j hj
    rw [hjk] at this; exact this
  simp (disch := first | omega | assumption | decide | (simp <;> omega) | fail) [facts, e0, e1, e5, e6, e7, e8]
  refine w_loop (ord2Inv H a i c T pa pb zs) (fun st => (intOf (st.env 10) + 1).toNat) ?_ ?_
  · exact ⟨i, A, B, NA, NB, Nat.le_refl _, ⟨by simp [e0], by simp [e1], by simp [e5], by simp [e6], by simp [e7], two⟩, by simp, hA, hB, hNA, hNBa, fun k h1 h2 => by omega⟩
  clear hA hB hNA hNB hNB2 hNBa two e0 e1 e5 e6 e7 e8
  rintro ⟨env2, G⟩ ⟨m, A, B, NA, NB, hm, ⟨e0, e1, e5, e6, e7, two⟩, e10, hA, hB, hNA, hNB, hNB2⟩
  simp only at e0 e1 e5 e6 e7 e10 two
  by_cases hm0 : 0 < m
  · obtain ⟨k, rfl⟩ : ∃ k, m = k + 1 := ⟨m - 1, by omega⟩
    have e10' : env2 10 = .int .i64 (k : Int) := by rw [e10]; congr 1; omega
    obtain ⟨ab, ao, rfl⟩ := h.lit (by omega)
    obtain ⟨y, hy⟩ : ∃ y, zs[k]? = some y := ⟨_, List.getElem?_eq_getElem (by omega)⟩
    have hyb := hz y (List.mem_of_getElem? hy)
    have ry := (h.le two.fle).at hy
    rw [at1_lit] at ry
    simp (disch := first | omega | assumption | decide | (simp <;> omega) | fail) [facts, e0, e1, e5, e6, e7, e10', ry]
    refine (lo_reverse two.ble hB k (by omega) (y / 3) (y + 1) (by rw [hNB k (by omega), amt_of hy]) (by omega)).mono ?_
    rintro _ G1 ⟨⟨_, rfl⟩, B1, ow1, hB1⟩
    rw [if_pos (by omega)] at hB1
    have two1 := two.right ow1
    have ry1 := (h.le two1.fle).at hy
    rw [at1_lit] at ry1
    simp (disch := first | omega | assumption | decide | (simp <;> omega) | fail) [facts, e0, e1, e5, e6, e7, e10', ry1]
    refine (lo_reverse two1.ble hB1 k (by omega) (y / 2) (y / 3) (by unfold putN; rw [if_pos rfl]) (by omega)).mono ?_
    rintro _ G2 ⟨⟨_, rfl⟩, B2, ow2, hB2⟩
    rw [if_neg (by omega)] at hB2
    have two2 := two1.right ow2
    simp (disch := first | omega | assumption | decide | (simp <;> omega) | fail) [facts, e10']
    refine ⟨_, Heap.le_refl _, ⟨k, A, B2, NA, _, by omega, ⟨by simp [e0], by simp [e1], by simp [e5], by simp [e6], by simp [e7], two2⟩, by simp, hA, hB2, hNA, ?_, ?_⟩, by simp [intOf, e10']⟩
    · intro j hj
      unfold putN
      rw [if_neg (by omega)]; exact hNB j (by omega)
    · intro j h1 h2
      unfold putN
      by_cases hjk : j = k
      · subst hjk; rw [if_pos rfl, amt_of hy]
      · rw [if_neg hjk]; exact hNB2 j (by omega) h2
  have hm00 : m = 0 := by omega
  subst hm00
  have e10' : env2 10 = .int .i64 (-1) := by rw [e10]; rfl
  have hNBa : ∀ k, k < i → NB k = some (amt zs k / 3) := fun k hk => hNB2 k (Nat.zero_le _) hk
  simp (disch := first | omega | assumption | decide | (simp <;> omega) | fail) [facts, e0, e1, e5, e6, e7, e10']
  refine w_loop (ord3Inv H a i c T pa pb zs NA NB A B) (fun st => i - (intOf (st.env 12)).toNat) ?_ ?_
  · exact ⟨0, Nat.zero_le _, ⟨by simp [e0], by simp [e1], by simp [e5], by simp [e6], by simp [e7], two⟩, by simp, by simp [sumN]⟩
  clear two e0 e1 e5 e6 e7 e10 e10' hNB hNB2 hNA0
  rintro ⟨env3, G⟩ ⟨k, hk, ⟨e0, e1, e5, e6, e7, two⟩, e12, e11⟩
  simp only at e0 e1 e5 e6 e7 e12 e11 two
  by_cases hlt : k < i
  · have hltI : (k : Int) < (i : Int) := by omega
    obtain ⟨ab, ao, rfl⟩ := h.lit (by omega)
    obtain ⟨y, hy⟩ : ∃ y, zs[k]? = some y := ⟨_, List.getElem?_eq_getElem (by omega)⟩
    have hyb := hz y (List.mem_of_getElem? hy)
    have hNAk : NA k = some (y / 3) := by rw [hNA k hlt, amt_of hy]
    have hNBk : NB k = some (y / 3) := by rw [hNBa k hlt, amt_of hy]
    simp (disch := first | omega | assumption | decide | (simp <;> omega) | fail) [facts, e0, e1, e5, e6, e7, e12, hltI]
    refine fresh_intro fun kb hkb => ?_
    simp (disch := first | omega | assumption | decide | (simp <;> omega) | fail) [facts, ]
    have twk := two.keep hkb (.row true 0 [.int .u16 0, .int .u32 (k : Int)] 0)
    rw [upd_upd]
    obtain ⟨Gk, hGk⟩ : ∃ Gk, Gk = upd G kb (.row true 0 [.int .u16 0, .int .u32 (k : Int)] 0) := ⟨_, rfl⟩
    obtain ⟨Fk, hFk⟩ : ∃ Fk, Fk = upd H kb (.row true 0 [.int .u16 0, .int .u32 (k : Int)] 0) := ⟨_, rfl⟩
    rw [← hGk]
    rw [← hGk, ← hFk] at twk
    have hFkb : Fk kb = some (.row true 0 [.int .u16 0, .int .u32 (k : Int)] 0) := by rw [hFk, upd_same]
    have hHF : Heap.le H Fk := by rw [hFk]; exact le_upd _ (le_of_none two.fle hkb)
    have hkb0 := twk.fle _ _ hFkb
    have rd : ∀ G', TwoO Fk A B G' → rd1U (G' ab) (ao + k) = some (.int .u16 y) := fun G' t' => (h.le (Heap.le_trans hHF t'.fle)).at hy
    obtain ⟨I, hI⟩ : ∃ I : St → Prop, I = (fun st => OrdE Fk A B (some ⟨ab, ao, none⟩) i c T pa pb st ∧ st.env 11 = .int .i64 (sumN (fun k => some (amt zs k / 3)) k) ∧ st.env 12 = .int .i64 k ∧ st.env 13 = .pointer (some ⟨kb, 0, none⟩) ∧ st.env 136 = .bool false) := ⟨_, rfl⟩
    refine w_cut I ?_ ?_
    · refine w_plan (by simp [facts]) (opsP [0,3] (.both (opsP [1] (.both (opsP [2,4,5,6,7,8,11,12,13] (.both (opsP [9] (.both (opsP [10,14,15,16,17,18] .done) (opsP [14,15,16,10,17,18] .done))) (opsP [14,15,16,9,10,17,18] .done))) (opsP [4,2,5,6,7,8,11,12,13] (.both (opsP [9] (.both (opsP [10,14,15,16,17,18] .done) (opsP [14,15,16,10,17,18] .done))) (opsP [14,15,16,9,10,17,18] .done))))) (opsP [4,1,2,5,6,7,8,11,12,13] (.both (opsP [9] (.both (opsP [10,14,15,16,17,18] .done) (opsP [14,15,16,10,17,18] .done))) (opsP [14,15,16,9,10,17,18] .done))))) (by decide +kernel) ?_
      simp (disch := first | omega | assumption | decide | (simp <;> omega) | fail) [facts, e0, e5, e6, e12, hkb0]
      repeat' apply And.intro
      all_goals
        refine (lo_net twk.ale hA k hlt (y / 3) hNAk).mono ?_
        rintro _ G1 ⟨rfl, hl1⟩
        have tw1 := twk.grow hl1
        have hkb1 := tw1.fle _ _ hFkb
        simp (disch := first | omega | assumption | decide | (simp <;> omega) | fail) [facts, e0, e5, e6, e12, hkb1]
        refine (lo_net tw1.ble hB k hlt (y / 3) hNBk).mono ?_
        rintro _ G2 ⟨rfl, hl2⟩
        have tw2 := tw1.grow hl2
        have hkb2 := tw2.fle _ _ hFkb
        have r2 := rd G2 tw2
        simp (disch := first | omega | assumption | decide | (simp <;> omega) | fail) [facts, e0, e5, e6, e12, hkb2, hltI, r2]
        repeat' apply And.intro
      all_goals
        refine (lo_net (TwoO.ale (F := Fk) (B := B) (by assumption)) hA k hlt (y / 3) hNAk).mono ?_
        rintro _ G3 ⟨rfl, hl3⟩
        have tw3 := TwoO.grow (F := Fk) (A := A) (B := B) (by assumption) hl3
        have r3 := rd G3 tw3
        simp (disch := first | omega | assumption | decide | (simp <;> omega) | fail) [facts, e0, e5, e6, e12, r3, hltI]
        subst hI
        exact ⟨⟨by simp [e0], by simp [e1], by simp [e5], by simp [e6], by simp [e7], tw3⟩, by simp [e11], by simp [e12], by simp, by simp⟩
    rintro ⟨env4, G⟩ hS
    subst hI
    obtain ⟨⟨e0, e1, e5, e6, e7, two⟩, e11, e12, e13, e136⟩ := hS
    simp only at e0 e1 e5 e6 e7 e12 e11 e13 e136 two
    have hkb4 := two.fle _ _ hFkb
    have hSb := hsum k (by omega) (by omega)
    obtain ⟨S, hS⟩ : ∃ S, S = sumN (fun k => some (amt zs k / 3)) k := ⟨_, rfl⟩
    have hS1 : sumN (fun k => some (amt zs k / 3)) (k + 1) = S + y / 3 := by simp only [sumN, ← hS, Option.getD_some, amt_of hy]
    rw [← hS] at e11 hSb
    simp (disch := first | omega | assumption | decide | (simp <;> omega) | fail) [facts, e0, e1, e5, e6, e7, e11, e12, e13, e136, hkb4]
    refine (lo_net two.ale hA k hlt (y / 3) hNAk).mono ?_
    rintro _ G5 ⟨rfl, hl5⟩
    have tw5 := (two.grow hl5).less hHF
    simp (disch := first | omega | assumption | decide | (simp <;> omega) | fail) [facts, e11, e12]
    exact ⟨_, Heap.le_refl _, ⟨k + 1, by omega, ⟨by simp [e0], by simp [e1], by simp [e5], by simp [e6], by simp [e7], tw5⟩, by simp, by rw [hS1]; simp⟩, by simp [intOf, e12]; omega⟩
  · have hki : k = i := by omega
    subst hki
    have hSb := hsum k (Nat.le_refl _) (by omega)
    have sA : sumN NA k = sumN (fun k => some (amt zs k / 3)) k := sumN_congr k hNA
    have sB : sumN NB k = sumN (fun k => some (amt zs k / 3)) k := sumN_congr k hNBa
    obtain ⟨S, hS⟩ : ∃ S, S = sumN (fun k => some (amt zs k / 3)) k := ⟨_, rfl⟩
    rw [← hS] at e11 hSb sA sB
    simp (disch := first | omega | assumption | decide | (simp <;> omega) | fail) [facts, e0, e1, e5, e6, e7, e11, e12]
    refine (lo_total two.ale hA).mono ?_
    rintro _ G1 ⟨rfl, hl1⟩
    rw [sA]
    have two1 := two.grow hl1
    simp (disch := first | omega | assumption | decide | (simp <;> omega) | fail) [facts, e5, e6, e11]
    refine (lo_total two1.ble hB).mono ?_
    rintro _ G2 ⟨rfl, hl2⟩
    rw [sB]
    have two2 := two1.grow hl2
    simp (disch := first | omega | assumption | decide | (simp <;> omega) | fail) [facts, e5, e6, e11]
    refine (lo_total two2.ale hA).mono ?_
    rintro _ G3 ⟨rfl, hl3⟩
    rw [sA]
    simp (disch := first | omega | assumption | decide | (simp <;> omega) | fail) [facts, e5, e6, e11]
    exact ⟨_, Heap.le_refl _⟩
end Go.Proofs.Ytdeffhibolcebaa.GL
