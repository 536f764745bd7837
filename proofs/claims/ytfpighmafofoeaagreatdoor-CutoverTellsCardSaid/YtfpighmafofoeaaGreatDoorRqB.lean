/- Layer 23: the reference's decimals, and its report.; Layer 23: CutoverTells: the walk.; Layer 23: the library's table beside the arguments; arguments of CutoverTells. -/
import Derived.Test.YtfpighmafofoeaaGreatDoorRpE
import Derived.Test.YtfpighmafofoeaaGreatDoorBlC
import Derived.Test.YtfpighmafofoeaaGreatDoorRpG
import Derived.Test.YtfpighmafofoeaaGreatDoorGlW
import Derived.Test.YtfpighmafofoeaaGreatDoorGlL
import Derived.Test.YtfpighmafofoeaaGreatDoorRows
import Derived.Lib.LaidTab
import Derived.Stop.LaidErr
import Derived.MakeChecks
namespace Go.Proofs.YtfpighmafofoeaaGreatDoor.GL
open Go Go.RowKit
open St (Txn txnL txnV zeroT openR_c)
open Ca (S4 flat)
set_option maxRecDepth 10000
set_option pp.deepTerms.threshold 8
set_option pp.maxSteps 3000
set_option linter.unusedSimpArgs false
set_option linter.unusedVariables false

theorem decLen : ∀ (k n : Nat), n < 10 ^ (k + 1) → (Lib.decDigits n).length ≤ k + 1
  | 0, n, h => by
    rw [Lib.decDigits, dif_pos (by simpa using h)]
    simp
  | k + 1, n, h => by
    by_cases h10 : n < 10
    · rw [Lib.decDigits, dif_pos h10]; simp
    · rw [Lib.decDigits, dif_neg h10, List.length_append]
      have := decLen k (n / 10) (by rw [Nat.pow_succ] at h; omega)
      simp only [List.length_cons, List.length_nil]
      omega
def digs : List UInt8 := [48, 49, 50, 51, 52, 53, 54, 55, 56, 57]
theorem dig_cut {n : Nat} (h : n < 10) : (mkS [48, 49, 50, 51, 52, 53, 54, 55, 56, 57]).extract n (n + 1) = mkS [UInt8.ofNat (48 + n)] := by
  rw [mkS_cut]
  have hc : n = 0 ∨ n = 1 ∨ n = 2 ∨ n = 3 ∨ n = 4 ∨ n = 5 ∨ n = 6 ∨ n = 7 ∨ n = 8 ∨ n = 9 := by omega
  rcases hc with rfl | rfl | rfl | rfl | rfl | rfl | rfl | rfl | rfl | rfl <;> rfl
theorem dec_c : ∀ (n : Nat), n < 1000000000000000000 → ∀ H, ECalls Tryz.prog 38 #[.int .i64 n] H fun v H' => v = .string (mkS (Lib.decDigits n)) ∧ H' = H := by
  intro n
  induction n using Nat.strongRecOn with
  | _ n ih =>
    intro hn H
    refine ecalls_of_ewp (args := [_]) Tryz.func38 rfl rfl rfl (by simp [Tryz.ntmps38]) (by kernel_rfl) ?_
    have h0 : ¬ (n : Int) < 0 := by omega
    by_cases h10 : n < 10
    · have hI : (n : Int) < 10 := by omega
      have hd : Lib.decDigits n = [UInt8.ofNat (48 + n)] := by rw [Lib.decDigits, dif_pos h10]
      have hc := dig_cut h10
      rw [hd]
      simp (disch := first | omega | assumption | decide | (simp <;> omega) | fail) [facts, h0, hI, mkS_size, hc]
    · have hI : ¬ (n : Int) < 10 := by omega
      obtain ⟨q, hq⟩ : ∃ q, n / 10 = q := ⟨_, rfl⟩
      obtain ⟨r, hr⟩ : ∃ r, n % 10 = r := ⟨_, rfl⟩
      have hr10 : r < 10 := by omega
      have hd : Lib.decDigits n = Lib.decDigits q ++ [UInt8.ofNat (48 + r)] := by rw [Lib.decDigits, dif_neg h10, hq, hr]
      have h1 : Int.tdiv (n : Int) 10 = (q : Int) := by rw [Int.tdiv_eq_ediv_of_nonneg (by omega)]; omega
      have h2 : Int.tmod (n : Int) 10 = (r : Int) := by rw [Int.tmod_eq_emod_of_nonneg (by omega)]; omega
      have h3 : (n : Int) / 10 = (q : Int) := by omega
      have h4 : (n : Int) % 10 = (r : Int) := by omega
      have hc := dig_cut hr10
      have hl := decLen 17 q (by omega)
      have ha := s_add (P := Tryz.prog) (t := 9) (Lib.decDigits q) [UInt8.ofNat (48 + r)] (by simp; omega)
      rw [hd]
      have ihq := ih q (by omega) (by omega)
      generalize Lib.decDigits q = dq at ha ihq
      generalize [UInt8.ofNat (48 + r)] = dr at ha hc
      clear hl hd hq hr
      simp (disch := first | omega | assumption | decide | (simp <;> omega) | fail) [facts, h0, hI]
      refine w_plan (P := Tryz.prog) (by simp [facts]) (opsP [0,1,3,4,5,6,7,8,2,9,10] .done) ?_ ?_
      · decide +kernel
      simp (disch := first | omega | assumption | decide | (simp <;> omega) | fail) [facts, h1, h2, h3, h4, mkS_size, hc]
      refine (ihq _).mono ?_
      rintro v H' ⟨rfl, rfl⟩
      simp (disch := first | omega | assumption | decide | (simp <;> omega) | fail) [facts, ha]
theorem sumZ_snoc {L : List Txn} {k : Nat} {t : Txn} (i : Nat) (h : L[k]? = some t) : sumZ i (L.take (k + 1)) = sumZ i (L.take k) + if sdP i t = true then t.given else 0 := by
  unfold sumZ
  rw [sdL_snoc i h]
  by_cases hs : sdP i t = true <;> simp [hs]
theorem sumZ_in {L : List Txn} (h : ∀ t ∈ L, 0 ≤ t.given ∧ t.given ≤ 1000000) (i : Nat) : 0 ≤ sumZ i L ∧ sumZ i L ≤ 1000000 * (L.length : Int) := by
  induction L with
  | nil => exact ⟨Int.le_refl _, Int.le_refl _⟩
  | cons t L ih =>
    have h1 := ih fun x hx => h x (List.mem_cons_of_mem _ hx)
    have h2 := h t List.mem_cons_self
    unfold sumZ sdL at h1 ⊢
    rw [List.filter_cons]
    by_cases hs : sdP i t = true
    · rw [if_pos hs, List.map_cons, List.sum_cons, List.length_cons]
      constructor
      · omega
      · push_cast; omega
    · rw [if_neg hs, List.length_cons]
      constructor
      · omega
      · push_cast; omega
def rcInv (H : Heap) (q n : Nat) (L : List Txn) (T : List Tm) (s : St) : Prop :=
  ∃ i : Nat, i ≤ n ∧ s.env 0 = .pointer (some ⟨q, 0, none⟩) ∧ s.env 3 = .string (mkS (cutZ L T i)) ∧ s.env 4 = .int .i64 i ∧ Heap.le H s.heap
def rc2Inv (H : Heap) (q i n : Nat) (A : List UInt8) (L : List Txn) (s : St) : Prop :=
  ∃ k : Nat, k ≤ n ∧ s.env 0 = .pointer (some ⟨q, 0, none⟩) ∧ s.env 3 = .string (mkS A) ∧ s.env 4 = .int .i64 i ∧ s.env 5 = .int .i64 (sdL i (L.take k)).length ∧ s.env 6 = .int .i64 (sumZ i (L.take k)) ∧ s.env 7 = .int .i64 (opN i (L.take k)) ∧ s.env 8 = .string (mkS [48]) ∧ s.env 9 = .int .i64 k ∧ Heap.le H s.heap
set_option maxHeartbeats 2000000 in
theorem rcutover_c (H : Heap) (q : Nat) (tv lv : Value) (W : List Tp) (L : List Txn) (hR : RefR H q tv lv W L) (hL : L.length < 100) (hT : W.length ≤ 8) (hg : ∀ t ∈ L, 0 ≤ t.given ∧ t.given ≤ 1000000) (htm : ∀ t ∈ L, 0 ≤ t.term ∧ t.term ≤ 65535)
    (hcut : ∀ i, i ≤ W.length → (cutZ L (tmsOf W) i).length ≤ 1000) :
    ECalls Tryz.prog 12 #[.pointer (some ⟨q, 0, none⟩)] H fun v H' => v = .string (mkS (cutZ L (tmsOf W) W.length)) ∧ Heap.le H H' := by
  refine ecalls_of_ewp (args := [_]) Tryz.func12 rfl rfl rfl (by simp [Tryz.ntmps12]) (by kernel_rfl) ?_
  obtain ⟨ta, tc, rfl, ht, _⟩ := hR.trm.sl (Heap.le_refl H)
  obtain ⟨la, lc, rfl, hl, _⟩ := hR.lst.sl (Heap.le_refl H)
  have hrow := hR.row
  clear hR
  obtain ⟨T, hTT⟩ : ∃ T, T = tmsOf W := ⟨_, rfl⟩
  rw [← hTT] at hcut ⊢
  obtain ⟨m, hm⟩ : ∃ m, W.length = m := ⟨_, rfl⟩
  obtain ⟨n, hn⟩ : ∃ n, L.length = n := ⟨_, rfl⟩
  rw [hm] at ht hT hcut hrow ⊢
  rw [hn] at hl hL hrow
  simp (disch := first | omega | assumption | decide | (simp <;> omega) | fail) [facts, ]
  refine w_loop (rcInv H q m L T) (fun s => m - (intOf (s.env 4)).toNat) ?_ ?_
  · exact ⟨0, Nat.zero_le _, by simp, by simp [cutZ], by simp, Heap.le_refl _⟩
  rintro ⟨e, G⟩ ⟨i, hi, e0, e3, e4, hle⟩
  simp only at e0 e3 e4 hle
  have hrG := hle _ _ hrow
  by_cases hlt : i < m
  · have hltI : (i : Int) < (m : Int) := by omega
    have hA := hcut i hi
    have hsu := cutZ_succ L T i
    obtain ⟨A, hAA⟩ : ∃ A, cutZ L T i = A := ⟨_, rfl⟩
    rw [hAA] at hA hsu e3
    simp (disch := first | omega | assumption | decide | (simp <;> omega) | fail) [facts, e0, e4, hrG, hltI]
    obtain ⟨J, hJ⟩ : ∃ J : St → Prop, J = (fun s => s.env 0 = .pointer (some ⟨q, 0, none⟩) ∧ s.env 3 = .string (mkS A) ∧ s.env 4 = .int .i64 i ∧ s.env 5 = .int .i64 (sdL i L).length ∧ s.env 6 = .int .i64 (sumZ i L) ∧ s.env 7 = .int .i64 (opN i L) ∧ s.env 8 = .string (mkS [48]) ∧ Heap.le H s.heap) := ⟨_, rfl⟩
    refine w_cutB J ?_ ?_
    · refine w_loop (rc2Inv H q i n A L) (fun s => n - (intOf (s.env 9)).toNat) ?_ ?_
      · exact ⟨0, Nat.zero_le _, by simp [e0], by simp [e3], by simp [e4], by simp [sdL], by simp [sumZ, sdL], by simp [opN], by simp, by simp, hle⟩
      clear e0 e3 e4 hle hrG
      rintro ⟨e, G⟩ ⟨k, hk, e0, e3, e4, e5, e6, e7, e8, e9, hle⟩
      simp only at e0 e3 e4 e5 e6 e7 e8 e9 hle
      have hrG := hle _ _ hrow
      have hsdl : (sdL i (L.take k)).length ≤ k := Nat.le_trans (sdL_len _ _) (by rw [List.length_take]; omega)
      have hopl : opN i (L.take k) ≤ k := Nat.le_trans (opN_len _ _) (by rw [List.length_take]; omega)
      have hsum := sumZ_in (L := L.take k) (fun t ht => hg t (List.mem_of_mem_take ht)) i
      rw [List.length_take] at hsum
      by_cases hkt : k < n
      · have hktI : (k : Int) < (n : Int) := by omega
        obtain ⟨t, htx⟩ : ∃ t, L[k]? = some t := ⟨_, List.getElem?_eq_getElem (by omega)⟩
        obtain ⟨ab, ao, rfl⟩ := hl.lit (by omega)
        have hgt := hg t (List.mem_of_getElem? htx)
        have htt := htm t (List.mem_of_getElem? htx)
        have hwt : IntKind.wrap .i64 t.term = t.term := by rw [IntKind.wrap_i64]; omega
        have q0 : rd1U (G ab) (ao + k * 11) = some (.int .u16 t.term) := (hl.le hle).el1 tx11 htx (j := 0) (by decide)
        have q4 : rd1U (G ab) (ao + k * 11 + 4) = some (.int .i64 t.state) := (hl.le hle).el1 tx11 htx (j := 4) (by decide)
        have q9 : rd1U (G ab) (ao + k * 11 + 9) = some (.int .i64 t.given) := (hl.le hle).el1 tx11 htx (j := 9) (by decide)
        have qx : rdNU (G ab) (ao + k * 11) 11 = some (txnL t) := (hl.le hle).el tx11 htx (j := 0) (r := 11) (by decide) (by decide)
        have hst := sdL_snoc i htx
        have hso := opN_snoc i htx
        have hsz := sumZ_snoc i htx
        have hws : IntKind.wrap .i64 (sumZ i (L.take k) + t.given) = sumZ i (L.take k) + t.given := by rw [IntKind.wrap_i64]; omega
        have co := fun H => openR_c t H
        have htv : txnV t = .agg (txnL t).toArray := rfl
        rw [htv] at co
        obtain ⟨tl, htl⟩ : ∃ tl, tl = txnL t := ⟨_, rfl⟩
        rw [← htl] at co qx
        have k11 : List.take 11 tl = tl := List.take_of_length_le (by rw [htl]; exact Nat.le_refl 11)
        obtain ⟨ns, hns⟩ : ∃ ns, (sdL i (L.take k)).length = ns := ⟨_, rfl⟩
        obtain ⟨sm, hsm⟩ : ∃ sm, sumZ i (L.take k) = sm := ⟨_, rfl⟩
        obtain ⟨no, hno⟩ : ∃ no, opN i (L.take k) = no := ⟨_, rfl⟩
        rw [hns] at e5 hsdl
        rw [hsm] at e6 hws hsz
        rw [hno] at e7 hopl hso
        have hst2 : (sdL i (L.take (k + 1))).length = ns + if sdP i t = true then 1 else 0 := by
          rw [hst, List.length_append, hns]
          split <;> rfl
        by_cases hti : t.term = (i : Int)
        · by_cases h5 : t.state = 5
          · have hsd : sdP i t = true := by unfold sdP; simp [hti, h5]
            have hop : ¬ opP i t = true := by unfold opP; simp [h5]
            rw [if_pos hsd] at hst2 hsz
            rw [if_neg hop, Nat.add_zero] at hso
            simp (disch := first | omega | assumption | decide | (simp <;> omega) | fail) [facts, e0, e4, e9, hrG, hktI, q0, hwt, hti, q4, h5]
            refine w_plan (P := Tryz.prog) (by simp [facts]) (opsP [0,1,2,3,4,5,6,7,8,9,10,11,12,13] .done) ?_ ?_
            · decide +kernel
            simp (disch := first | omega | assumption | decide | (simp <;> omega) | fail) [facts, e0, e5, e6, e9, hrG, q9, hws, qx, k11]
            refine (co G).mono ?_
            rintro r H2 ⟨rfl, hle2⟩
            simp (disch := first | omega | assumption | decide | (simp <;> omega) | fail) [facts, h5, e9]
            exact ⟨_, Heap.le_refl _, ⟨k + 1, by omega, by simp [e0], by simp [e3], by simp [e4], by rw [hst2]; simp, by rw [hsz]; simp, by rw [hso]; simp [e7], by simp [e8], by simp, Heap.le_trans hle hle2⟩, by simp [intOf, e9]; omega⟩
          · have hsd : ¬ sdP i t = true := by unfold sdP; simp [h5]
            rw [if_neg hsd, Nat.add_zero] at hst2
            rw [if_neg hsd, Int.add_zero] at hsz
            simp (disch := first | omega | assumption | decide | (simp <;> omega) | fail) [facts, e0, e4, e9, hrG, hktI, q0, hwt, hti, q4, h5, qx, k11]
            refine (co G).mono ?_
            rintro r H2 ⟨rfl, hle2⟩
            by_cases ho : 1 ≤ t.state ∧ t.state ≤ 4
            · have hop : opP i t = true := by unfold opP; simp [hti, ho]
              rw [if_pos hop] at hso
              simp (disch := first | omega | assumption | decide | (simp <;> omega) | fail) [facts, ho, e7, e9]
              exact ⟨_, Heap.le_refl _, ⟨k + 1, by omega, by simp [e0], by simp [e3], by simp [e4], by rw [hst2]; simp [e5], by rw [hsz]; simp [e6], by rw [hso]; simp, by simp [e8], by simp, Heap.le_trans hle hle2⟩, by simp [intOf, e9]; omega⟩
            · have hop : ¬ opP i t = true := by unfold opP; simp; omega
              rw [if_neg hop, Nat.add_zero] at hso
              simp (disch := first | omega | assumption | decide | (simp <;> omega) | fail) [facts, ho, e9]
              exact ⟨_, Heap.le_refl _, ⟨k + 1, by omega, by simp [e0], by simp [e3], by simp [e4], by rw [hst2]; simp [e5], by rw [hsz]; simp [e6], by rw [hso]; simp [e7], by simp [e8], by simp, Heap.le_trans hle hle2⟩, by simp [intOf, e9]; omega⟩
        · have hsd : ¬ sdP i t = true := by unfold sdP; simp [hti]
          have hop : ¬ opP i t = true := by unfold opP; simp [hti]
          rw [if_neg hsd, Nat.add_zero] at hst2
          rw [if_neg hsd, Int.add_zero] at hsz
          rw [if_neg hop, Nat.add_zero] at hso
          simp (disch := first | omega | assumption | decide | (simp <;> omega) | fail) [facts, e0, e4, e9, hrG, hktI, q0, hwt, hti]
          exact ⟨_, Heap.le_refl _, ⟨k + 1, by omega, by simp [e0], by simp [e3], by simp [e4], by rw [hst2]; simp [e5], by rw [hsz]; simp [e6], by rw [hso]; simp [e7], by simp [e8], by simp, hle⟩, by simp [intOf, e9]; omega⟩
      · have hktI : ¬ (k : Int) < (n : Int) := by omega
        have htk : L.take k = L := List.take_of_length_le (by omega)
        rw [htk] at e5 e6 e7
        simp (disch := first | omega | assumption | decide | (simp <;> omega) | fail) [facts, e0, e9, hrG, hktI]
        subst hJ
        exact ⟨by simp [e0], by simp [e3], by simp [e4], by simp [e5], by simp [e6], by simp [e7], by simp [e8], hle⟩
    · clear e0 e3 e4 hle hrG
      rintro ⟨e, G⟩ hII
      subst hJ
      obtain ⟨e0, e3, e4, e5, e6, e7, e8, hle⟩ := hII
      simp only at e0 e3 e4 e5 e6 e7 e8 hle
      have hrG := hle _ _ hrow
      obtain ⟨x, hx⟩ : ∃ x, W[i]? = some x := ⟨_, List.getElem?_eq_getElem (by omega)⟩
      obtain ⟨tb, to, rfl⟩ := ht.lit (by omega)
      have rx : rd1U (G tb) (to + i * 3 + 1) = some (.bool x.1.out) := (ht.le hle).el1 tp3 hx (j := 1) (by decide)
      have hout : outZ T i = x.1.out := by
        unfold outZ
        rw [hTT]
        have : (tmsOf W)[i]? = some x.1 := by unfold tmsOf; rw [List.getElem?_map, hx]; rfl
        rw [this]
      rw [hout] at hsu
      have hsum := sumZ_in hg i
      obtain ⟨S, hS⟩ : ∃ S : Nat, sumZ i L = (S : Int) := ⟨(sumZ i L).toNat, by omega⟩
      have hi100 : i < 100 := by omega
      have hnd : (sdL i L).length < 100 := by have := sdL_len i L; omega
      have hno : opN i L < 100 := by have := opN_len i L; omega
      have hS2 : S < 1000000000 := by rw [hS] at hsum; omega
      have hito : Lib.itoa (sumZ i L) = Lib.decDigits S := by
        rw [hS]
        unfold Lib.itoa
        rw [if_neg (by omega), Int.toNat_natCast]
      have c1 := dec_c i (by omega)
      have c2 := dec_c (sdL i L).length (by omega)
      have c3 := dec_c S (by omega)
      have c4 := dec_c (opN i L) (by omega)
      have l1 := dec_len hi100
      have l2 := dec_len hnd
      have l3 := decLen 17 S (by omega)
      have l4 := dec_len hno
      have hln : lineZ i L x.1.out = (84 :: Lib.decDigits i) ++ ([32] ++ Lib.decDigits (sdL i L).length) ++ ([32] ++ Lib.decDigits S) ++ ([32] ++ Lib.decDigits (opN i L)) ++ ([32] ++ if x.1.out = true then [49] else [48]) ++ [10] := by
        unfold lineZ
        rw [join5, hito]
      rw [hS] at e6
      generalize Lib.decDigits i = d1 at c1 l1 hln
      generalize Lib.decDigits (sdL i L).length = d2 at c2 l2 hln
      generalize Lib.decDigits S = d3 at c3 l3 hln
      generalize Lib.decDigits (opN i L) = d4 at c4 l4 hln
      generalize (sdL i L).length = nn at e5 c2
      generalize opN i L = no at e7 c4
      cases ho : x.1.out with
      | true =>
        rw [ho] at rx hsu hln
        rw [hln] at hsu
        simp only [if_true] at hsu
        simp (disch := first | omega | assumption | decide | (simp <;> omega) | fail) [facts, e0, e4, hrG, rx, e3, s_add]
        refine (c1 _).mono ?_
        rintro r G2 ⟨rfl, rfl⟩
        simp (disch := first | omega | assumption | decide | (simp <;> omega) | fail) [facts, s_add, e5]
        refine (c2 _).mono ?_
        rintro r G2 ⟨rfl, rfl⟩
        simp (disch := first | omega | assumption | decide | (simp <;> omega) | fail) [facts, s_add, e6]
        refine (c3 _).mono ?_
        rintro r G2 ⟨rfl, rfl⟩
        simp (disch := first | omega | assumption | decide | (simp <;> omega) | fail) [facts, s_add, e7]
        refine (c4 _).mono ?_
        rintro r G2 ⟨rfl, rfl⟩
        simp (disch := first | omega | assumption | decide | (simp <;> omega) | fail) [facts, s_add, e4]
        exact ⟨_, Heap.le_refl _, ⟨i + 1, by omega, by simp [e0], by rw [hsu]; simp, by simp, hle⟩, by simp [intOf, e4]; omega⟩
      | false =>
        rw [ho] at rx hsu hln
        rw [hln] at hsu
        simp only [Bool.false_eq_true, if_false] at hsu
        simp (disch := first | omega | assumption | decide | (simp <;> omega) | fail) [facts, e0, e4, hrG, rx, e3, s_add]
        refine (c1 _).mono ?_
        rintro r G2 ⟨rfl, rfl⟩
        simp (disch := first | omega | assumption | decide | (simp <;> omega) | fail) [facts, s_add, e5]
        refine (c2 _).mono ?_
        rintro r G2 ⟨rfl, rfl⟩
        simp (disch := first | omega | assumption | decide | (simp <;> omega) | fail) [facts, s_add, e6]
        refine (c3 _).mono ?_
        rintro r G2 ⟨rfl, rfl⟩
        simp (disch := first | omega | assumption | decide | (simp <;> omega) | fail) [facts, s_add, e7]
        refine (c4 _).mono ?_
        rintro r G2 ⟨rfl, rfl⟩
        simp (disch := first | omega | assumption | decide | (simp <;> omega) | fail) [facts, s_add, e4, e8]
        exact ⟨_, Heap.le_refl _, ⟨i + 1, by omega, by simp [e0], by rw [hsu]; simp, by simp, hle⟩, by simp [intOf, e4]; omega⟩
  · have hltI : ¬ (i : Int) < (m : Int) := by omega
    have him : i = m := by omega
    subst him
    simp (disch := first | omega | assumption | decide | (simp <;> omega) | fail) [facts, e0, e4, hrG, hltI, e3]
    exact ⟨_, Heap.le_refl _, hle⟩
end Go.Proofs.YtfpighmafofoeaaGreatDoor.GL

namespace Go.Proofs.YtfpighmafofoeaaGreatDoor.GL
open Go Go.RowKit
open St (Txn txnL txnV zeroT RightT OkT Rec recV stepF RightR)
open Ca (S4 flat setV OkS CassOk newS)
set_option maxRecDepth 10000
set_option pp.deepTerms.threshold 8
set_option pp.maxSteps 3000
set_option linter.unusedSimpArgs false
set_option linter.unusedVariables false

theorem insL_len_le (u : Txn) : ∀ L : List Txn, (insL u L).length ≤ L.length + 1
  | [] => by simp [insL]
  | t :: l => by
    unfold insL
    split
    · simp
    · split
      · simp
      · have := insL_len_le u l
        simp only [List.length_cons]
        omega
theorem doB_len (b : Bz) (r : Rec) : (doB b r).1.L.length ≤ b.L.length + 1 := by
  unfold doB
  split
  · simp
  · split
    · simp
    · split
      · simp
      · split
        · split <;> simp
        · unfold stepB
          simp only
          split
          · simp
          · split
            · simp
            · split
              · split
                · simp
                · exact insL_len_le _ _
              · exact insL_len_le _ _
theorem doB_mem {b : Bz} (h : BOk b) (r : Rec) : ∀ t ∈ (doB b r).1.L, t ∈ b.L ∨ t.term = r.term := by
  unfold doB
  by_cases hr : r.rz.right = false
  · rw [if_pos hr]; exact fun t ht => .inl ht
  rw [if_neg hr]
  cases hx : b.T[r.term.toNat]? with
  | none => exact fun t ht => .inl ht
  | some x =>
    simp only
    by_cases h9 : r.kind = 9
    · rw [if_pos h9]; exact fun t ht => .inl ht
    rw [if_neg h9]
    by_cases h8 : r.kind = 8
    · rw [if_pos h8]
      split
      · exact fun t ht => .inl ht
      · exact fun t ht => .inl ht
    rw [if_neg h8]
    have hR : RightR r := by
      refine ⟨?_, by simpa using hr⟩
      have : r.rz.right = true := by simpa using hr
      simp only [RZ.right, Rec.rz, Bool.and_eq_true] at this
      have a1 := of_decide_eq_true this.1.1.1.1.1.1.1.1
      have a2 := of_decide_eq_true this.1.1.1.1.1.1.1.2
      omega
    unfold stepB
    simp only
    cases hg : getK (kyR r) b.L with
    | none =>
      simp only [Option.getD_none, Option.isSome_none]
      by_cases he : (stepF zeroT r).2 = 0
      case neg => rw [if_pos he]; exact fun t ht => .inl ht
      obtain ⟨ho, hk⟩ := step_ok (.inl rfl) hR (.inl rfl) he
      rw [if_neg (by simpa using he)]
      have hm : ∀ t ∈ insL (stepF zeroT r).1 b.L, t ∈ b.L ∨ t.term = r.term := fun t ht => by
        rcases insL_mem ht with rfl | ht
        · exact .inr (congrArg KZ.t hk)
        · exact .inl ht
      split
      · exact fun t ht => .inl ht
      · split
        · split
          · exact fun t ht => .inl ht
          · exact hm
        · exact hm
    | some w =>
      obtain ⟨hwm, hwk⟩ := getK_some hg
      simp only [Option.getD_some, Option.isSome_some]
      by_cases he : (stepF w r).2 = 0
      case neg => rw [if_pos he]; exact fun t ht => .inl ht
      obtain ⟨ho, hk⟩ := step_ok (.inr (h.ok w hwm)) hR (.inr hwk) he
      rw [if_neg (by simpa using he)]
      have hm : ∀ t ∈ insL (stepF w r).1 b.L, t ∈ b.L ∨ t.term = r.term := fun t ht => by
        rcases insL_mem ht with rfl | ht
        · exact .inr (congrArg KZ.t hk)
        · exact .inl ht
      split
      · exact fun t ht => .inl ht
      · split
        · split
          · exact fun t ht => .inl ht
          · exact hm
        · exact hm
theorem okT_given {t : Txn} (h : OkT t) : 0 ≤ t.given ∧ t.given ≤ 1000000 := by
  have h1 := h.am1
  have h2 := h.am2
  rcases h.state with ⟨_, _, hg, _⟩ | ⟨_, hg, _⟩ | ⟨_, ho⟩ | ⟨_, ⟨_, hg⟩ | ho⟩
  · omega
  · omega
  · unfold St.owesT at ho; omega
  · omega
  · unfold St.owesT at ho; omega
/-- One record, done to both. -/
theorem do20_c {F A B H : Heap} {p m : Nat} {fv tv : Value} {M : List Txn} {q : Nat} {tv2 lv : Value} {W : List Tp} {b : Bz} (h : Two20 F A B H p m fv tv M q tv2 lv W b) (r : Rec) (h0 : 0 ≤ r.term) (h1 : r.term ≤ 65535) (hpl : r.pan.length ≤ 100000) :
    ECalls Tryz.prog 9 #[.pointer (some ⟨p, 0, none⟩), recV r] H fun v H' => v = .int .i64 (doB b r).2 ∧ ∃ A' M', TwoO F A' B H' ∧ BookR A' p fv tv m M' (doB b r).1.T ∧ M'.Perm (doB b r).1.L := by
  refine (bdo_c H A p fv tv m M b.L b.T h.t.ale h.bk h.pm h.ok r h0 h1 hpl).mono ?_
  rintro v H' ⟨rfl, A', M', ow, hB, hp⟩
  exact ⟨rfl, A', M', h.t.left ow, hB, hp⟩
theorem rdo20_c {F A A' B H H' : Heap} {p m : Nat} {fv tv : Value} {M M' : List Txn} {q : Nat} {tv2 lv : Value} {W : List Tp} {b : Bz} (h : Two20 F A B H p m fv tv M q tv2 lv W b) (r : Rec) (h0 : 0 ≤ r.term) (h1 : r.term ≤ 65535) (hpl : r.pan.length ≤ 100000)
    (t' : TwoO F A' B H') (hB' : BookR A' p fv tv m M' (doB b r).1.T) (hp' : M'.Perm (doB b r).1.L) :
    ECalls Tryz.prog 10 #[.pointer (some ⟨q, 0, none⟩), recV r] H' fun v H2 => v = .int .i64 (doB b r).2 ∧ ∃ B' lv' W', Two20 F A' B' H2 p m fv tv M' q tv2 lv' W' (doB b r).1 := by
  have hok : BOk ⟨tmsOf W, b.L⟩ := by rw [h.tm]; exact h.ok
  have hc := rdo_c H' B q tv2 lv W b.L t'.ble h.rf hok r h0 h1 hpl
  rw [h.tm] at hc
  refine hc.mono ?_
  rintro v H2 ⟨rfl, B', lv', W', ow, hR, hT⟩
  exact ⟨rfl, B', lv', W', t'.right ow, hB', hR, hp', hT, doB_ok h.ok r h0⟩
/-- What the call knows besides. -/
theorem Two20.frame {F F2 A B H H2 : Heap} {p m : Nat} {fv tv : Value} {M : List Txn} {q : Nat} {tv2 lv : Value} {W : List Tp} {b : Bz} (h : Two20 F A B H p m fv tv M q tv2 lv W b) (t : TwoO F2 A B H2) : Two20 F2 A B H2 p m fv tv M q tv2 lv W b := ⟨t, h.bk, h.rf, h.pm, h.tm, h.ok⟩
structure In23 where
  kind : Nat
  k : Nat
  stan : Nat
  am : Nat
def In23.cells (x : In23) : List Value := [.int .u8 x.kind, .int .u8 x.k, .int .u8 x.stan, .int .u16 x.am]
theorem in23 (x : In23) : x.cells.length = 4 := rfl
structure In23.wf (x : In23) : Prop where
  kind : x.kind < 256
  k : x.k < 256
  stan : x.stan < 256
  am : x.am < 65536
/-- What the book of the law is. -/
structure Cu (n : Nat) (b : Bz) : Prop where
  len : b.L.length ≤ n
  ter : ∀ t ∈ b.L, 0 ≤ t.term ∧ t.term ≤ 65535
theorem Cu.go {n : Nat} {b : Bz} (h : Cu n b) (hok : BOk b) (r : Rec) (h0 : 0 ≤ r.term) (h1 : r.term ≤ 65535) : Cu (n + 1) (doB b r).1 :=
  ⟨by have := doB_len b r; have := h.len; omega, fun t ht => by
    rcases doB_mem hok r t ht with ht | ht
    · exact h.ter t ht
    · rw [ht]; exact ⟨h0, h1⟩⟩
theorem itoa_short {z : Int} (h0 : 0 ≤ z) (h1 : z < 1000000000000000000) : (Lib.itoa z).length ≤ 30 := by
  unfold Lib.itoa
  rw [if_neg (by omega)]
  exact Nat.le_trans (decLen 17 z.toNat (by omega)) (by decide)
theorem Cu.ok {H : Heap} {n : Nat} {b : Bz} (h : Cu n b) (hok : BOk b) (hn : n < 100) (ht : TabH H) : CutOk H b.L b.T :=
  have hg : ∀ t ∈ b.L, 0 ≤ t.given ∧ t.given ≤ 1000000 := fun t ht => okT_given (hok.ok t ht)
  have hs : ∀ i, 0 ≤ sumZ i b.L ∧ sumZ i b.L ≤ 1000000000 := fun i => by
    have h1 := sumZ_in hg i
    have h2 := h.len
    omega
  { srt := hok.ord
    few := by have := h.len; omega
    trm := hok.few
    giv := fun t ht => by have := hg t ht; unfold i64In; omega
    ter := h.ter
    sum := fun i _ => by have := hs i; unfold i64In; omega
    len := fun i _ => by have := hs i; exact itoa_short (by omega) (by omega)
    fmt := fun i _ G hG => by have := hs i; exact fmt_c _ (by omega) (by omega) G (ht.le hG) }
def cutInv (H1 : Heap) (a : Option Addr) (n c p m : Nat) (fv tv : Value) (q : Nat) (tv2 : Value) (s : St) : Prop :=
  ∃ (i : Nat) (F A B : Heap) (M : List Txn) (lv : Value) (W : List Tp) (b : Bz), i ≤ n ∧ s.env 2 = .slice a n c ∧ s.env 8 = .pointer (some ⟨p, 0, none⟩) ∧ s.env 9 = .pointer (some ⟨q, 0, none⟩) ∧ s.env 10 = .int .i64 i ∧ Heap.le H1 F ∧ Two20 F A B s.heap p m fv tv M q tv2 lv W b ∧ Cu i b
theorem TwoO.keep2 {F A B H : Heap} (t : TwoO F A B H) {b : Nat} (hA : A b = none) (hB : B b = none) (o : GObj) : TwoO (upd F b o) A B (upd H b o) := by
  have hof : ∀ {X : Heap}, X b = none → Heap.le X H → Heap.le X (upd H b o) := fun {X} hX hl i x e => by
    rw [upd_ne _ _ (fun h => by rw [h, hX] at e; cases e)]; exact hl i x e
  refine ⟨le_upd2' o t.fle, hof hA t.ale, hof hB t.ble, fun i x e => ?_, fun i x e => ?_, t.ab⟩
  · by_cases hi : i = b
    · rw [hi]; exact hA
    · rw [upd_ne _ _ hi] at e; exact t.fa i x e
  · by_cases hi : i = b
    · rw [hi]; exact hB
    · rw [upd_ne _ _ hi] at e; exact t.fb i x e
theorem TwoO.keep3 {F A B H H' : Heap} (t : TwoO F A B H) (hl : Heap.le H H') {b : Nat} (hF : F b = none) (hA : A b = none) (hB : B b = none) (o : GObj) : TwoO (upd F b o) A B (upd H' b o) :=
  (t.grow hl).keep2 hA hB o
set_option maxHeartbeats 4000000 in
theorem cutTells_c (t k : Nat) (a : Option Addr) (n c : Nat) (L : List In23) (H : Heap) (ht : t < 256) (hk : k < 256) (h : SlA H a n 4 (rowsC In23.cells L)) (hL : ∀ x ∈ L, x.wf) (hTab : TabH H) :
    ECalls Tryz.prog 3 #[.int .u8 t, .int .u8 k, .slice a n c] H fun v _ => v = .bool true := by
  refine ecalls_of_ewp (args := [_, _, _]) Tryz.func3 rfl rfl rfl (by simp [Tryz.ntmps3]) (by kernel_rfl) ?_
  have hlen : L.length = n := h.els in23 (by decide)
  simp (disch := first | omega | assumption | decide | (simp <;> omega) | fail) [facts, ]
  refine (known23_c H).mono ?_
  rintro v H1 ⟨rfl, hle1⟩
  replace h := h.le hle1
  replace hTab := hTab.le hle1
  by_cases hn : (60 : Int) < (n : Int)
  · simp (disch := first | omega | assumption | decide | (simp <;> omega) | fail) [facts, hn]
    exact ⟨_, Heap.le_refl _⟩
  simp (disch := first | omega | assumption | decide | (simp <;> omega) | fail) [facts, hn]
  refine (bank_c t k H1 ht hk).mono ?_
  rintro v H2 ⟨T, U, owU, hC, hT⟩
  obtain ⟨⟨tv0, pv0, fv0, rfl, hc1, hc2, hc3⟩, hcok⟩ := hC
  obtain ⟨ta, tc, rfl, _, _⟩ := hc1.sl (Heap.le_refl U)
  obtain ⟨pa, pc, rfl, _, _⟩ := hc2.sl (Heap.le_refl U)
  obtain ⟨fa, fc, rfl, _, _⟩ := hc3.sl (Heap.le_refl U)
  have hC : CfgV U (.agg #[.slice ta T.length tc, .slice pa 4 pc, .slice fa 4 fc, .int .i64 500, .int .i64 100000]) T k := ⟨⟨_, _, _, rfl, hc1, hc2, hc3⟩, hcok⟩
  replace h := h.le owU.all
  replace hTab := hTab.le owU.all
  simp (disch := first | omega | assumption | decide | (simp <;> omega) | fail) [facts, ]
  refine fresh_intro fun b7 hb7 => ?_
  have r7 := upd_same H2 b7 (.row true 0 [.slice ta T.length tc, .slice pa 4 pc, .slice fa 4 fc, .int .i64 500, .int .i64 100000] 0)
  have hl7 := le_upd (.row true 0 [.slice ta T.length tc, .slice pa 4 pc, .slice fa 4 fc, .int .i64 500, .int .i64 100000] 0) hb7
  replace h := h.le hl7
  replace hTab := hTab.le hl7
  have hU9 := Heap.le_trans owU.le hl7
  simp (disch := first | omega | assumption | decide | (simp <;> omega) | fail) [facts, upd_upd]
  generalize upd H2 b7 _ = H3 at *
  obtain ⟨I, hI⟩ : ∃ I : St → Prop, I = (fun s => s.env 2 = .slice a n c ∧ ∃ p q m fv tv tv2 M W A B, s.env 8 = .pointer (some ⟨p, 0, none⟩) ∧ s.env 9 = .pointer (some ⟨q, 0, none⟩) ∧ Two20 H3 A B s.heap p m fv tv M q tv2 (.slice none 0 0) W ⟨T.map tm0, []⟩) := ⟨_, rfl⟩
  refine w_cut I ?_ ?_
  · refine w_plan (P := Tryz.prog) (by simp [facts]) (.both (opsP [0] (.both (opsP [1,2,3,4,5] .done) (opsP [2,1,3,4,5] .done))) (opsP [2,0,1,3,4,5] .done)) ?_ ?_
    · decide +kernel
    simp (disch := first | omega | assumption | decide | (simp <;> omega) | fail) [facts, r7]
    repeat' apply And.intro
    all_goals
      refine (bnew_c _ T k U H3 hU9 hC (by omega) (by omega) hk).mono ?_
      rintro v H4 ⟨p, A, fv, tv, m, rfl, owA, hB, _⟩
      have r7' := owA.all _ _ r7
      simp (disch := first | omega | assumption | decide | (simp <;> omega) | fail) [facts, r7']
      refine (rnewbook_c _ T k U H4 (Heap.le_trans hU9 owA.all) hC (by omega) hk).mono ?_
      rintro v H5 ⟨q, B, tv2, W, rfl, owB, hR, hW⟩
      simp (disch := first | omega | assumption | decide | (simp <;> omega) | fail) [facts, ]
      subst hI
      exact ⟨by simp, p, q, m, fv, tv, tv2, [], W, A, B, by simp, by simp, TwoO.new (Heap.le_refl H3) owA owB, hB, hR, List.Perm.refl _, hW, bok_new hcok (by omega)⟩
  rintro ⟨env, G⟩ hII
  subst hI
  obtain ⟨e2, p, q, m, fv, tv, tv2, M, W, A, B, e8, e9, hTw⟩ := hII
  simp only at e2 e8 e9 hTw
  simp (disch := first | omega | assumption | decide | (simp <;> omega) | fail) [facts, e2, e8, e9]
  obtain ⟨I, hI⟩ : ∃ I : St → Prop, I = (fun s => ∃ (F A B : Heap) (M : List Txn) (lv : Value) (W : List Tp) (b : Bz), s.env 8 = .pointer (some ⟨p, 0, none⟩) ∧ s.env 9 = .pointer (some ⟨q, 0, none⟩) ∧ Heap.le H3 F ∧ Two20 F A B s.heap p m fv tv M q tv2 lv W b ∧ Cu n b) := ⟨_, rfl⟩
  refine w_cutB I ?_ ?_
  · refine w_loop (cutInv H3 a n c p m fv tv q tv2) (fun st => n - (intOf (st.env 10)).toNat) ?_ ?_
    · exact ⟨0, H3, A, B, M, _, W, _, Nat.zero_le _, by simp [e2], by simp [e8], by simp [e9], by simp, Heap.le_refl _, hTw, ⟨Nat.le_refl _, fun t ht => by cases ht⟩⟩
    clear e2 e8 e9 hTw
    rintro ⟨env, G⟩ ⟨i, F, A, B, M, lv, W, b, hi, e2, e8, e9, e10, hF, hTw, hCu⟩
    simp only at e2 e8 e9 e10 hTw
    by_cases hlt : i < n
    · have hltI : (i : Int) < (n : Int) := by omega
      obtain ⟨x, hx⟩ : ∃ x, L[i]? = some x := ⟨_, List.getElem?_eq_getElem (by omega)⟩
      have hxw := hL x (List.mem_of_getElem? hx)
      obtain ⟨ab, ao, rfl⟩ := h.lit (by omega)
      have hsG := h.le (Heap.le_trans hF hTw.t.fle)
      obtain ⟨r, hr⟩ : ∃ r, r = recN x.kind x.k x.stan x.am := ⟨_, rfl⟩
      have hrc := fun H => recN_c x.kind x.k x.stan x.am hxw.kind hxw.k hxw.stan hxw.am H
      rw [← hr] at hrc
      have hrt : 0 ≤ r.term ∧ r.term ≤ 65535 := by
        rw [hr]
        show 0 ≤ ((x.k % 3 : Nat) : Int) ∧ ((x.k % 3 : Nat) : Int) ≤ 65535
        omega
      have hrl2 : r.pan.length ≤ 100000 := by rw [hr]; exact Nat.le_trans (recN_len _ _ _ _) (by decide)
      have er : recV r = .agg (recL r).toArray := rfl
      obtain ⟨rl, hrl⟩ : ∃ rl, rl = recL r := ⟨_, rfl⟩
      simp only [er, ← hrl] at hrc
      have rl17 : rl.length = 17 := by rw [hrl]; rfl
      have rl1 : rl.all (·.oneCell') = true := by rw [hrl]; rfl
      have g0 : rl[0]? = some (.int .i64 r.kind) := by rw [hrl]; rfl
      obtain ⟨_, g0b⟩ := List.getElem?_eq_some_iff.1 g0
      have hsp : splice [.int .i64 0, .int .u16 0, .int .u32 0, .string (mkS []), .int .i64 0, .int .i64 0, .int .i64 0, .int .i64 0, .int .i64 0, .int .i64 0, .int .i64 0, .int .i64 0, .int .i64 0, .int .i64 0, .int .i64 0, .int .i64 0, .int .i64 0] 0 rl = rl := splice_all (by rw [rl17]; rfl)
      simp (disch := first | omega | assumption | decide | (simp <;> omega) | fail) [facts, e2, e10, hltI]
      obtain ⟨J, hJ⟩ : ∃ J : St → Prop, J = (fun s => s.env 2 = .slice (some ⟨ab, ao, none⟩) n c ∧ s.env 8 = .pointer (some ⟨p, 0, none⟩) ∧ s.env 9 = .pointer (some ⟨q, 0, none⟩) ∧ s.env 10 = .int .i64 i ∧ ∃ (b11 : Nat) (F2 : Heap) (r2 : Rec), s.env 11 = .pointer (some ⟨b11, 0, none⟩) ∧ (0 ≤ r2.term ∧ r2.term ≤ 65535) ∧ r2.pan.length ≤ 100000 ∧ Heap.le H3 F2 ∧ F2 b11 = some (.row true 0 (recL r2) 0) ∧ TwoO F2 A B s.heap) := ⟨_, rfl⟩
      refine w_growL (by simp [facts]) 22 [34,35,36,37,38,39,40,41,42,43,44,45,46,47,48,49,50,51,52,53,54,11] [.eq (.slice (some ⟨ab, ao, none⟩) n c), .eq (.int .i64 i), .eq (.pointer (some ⟨ab, ao + i * 4, none⟩)), .eq (.pointer (some ⟨ab, ao + i * 4, none⟩)), .eq (.int .u8 x.kind), .eq (.slice (some ⟨ab, ao, none⟩) n c), .eq (.int .i64 i), .eq (.pointer (some ⟨ab, ao + i * 4, none⟩)), .eq (.pointer (some ⟨ab, ao + i * 4 + 1, none⟩)), .eq (.int .u8 x.k), .eq (.slice (some ⟨ab, ao, none⟩) n c), .eq (.int .i64 i), .eq (.pointer (some ⟨ab, ao + i * 4, none⟩)), .eq (.pointer (some ⟨ab, ao + i * 4 + 2, none⟩)), .eq (.int .u8 x.stan), .eq (.slice (some ⟨ab, ao, none⟩) n c), .eq (.int .i64 i), .eq (.pointer (some ⟨ab, ao + i * 4, none⟩)), .eq (.pointer (some ⟨ab, ao + i * 4 + 3, none⟩)), .eq (.int .u16 x.am), .eq (.agg rl.toArray), .new G [.int .i64 0, .int .u16 0, .int .u32 0, .string (mkS []), .int .i64 0, .int .i64 0, .int .i64 0, .int .i64 0, .int .i64 0, .int .i64 0, .int .i64 0, .int .i64 0, .int .i64 0, .int .i64 0, .int .i64 0, .int .i64 0, .int .i64 0] (fun b => .pointer (some ⟨b, 0, none⟩))] (by decide +kernel) rfl ?_ ?_
      · simp only [List.take_succ_cons, List.take_zero, allL_cons, allL_nil]
        refine ⟨?_, ?_, ?_, ?_, ?_, ?_, ?_, ?_, ?_, ?_, ?_, ?_, ?_, ?_, ?_, ?_, ?_, ?_, ?_, ?_, ?_, ?_, trivial⟩
        all_goals (unfold stepL; intro f Hx hl ha)
        all_goals (
          have x0 : rd1U (Hx ab) (ao + i * 4) = some (.int .u8 x.kind) := (hsG.le hl).el1 in23 hx (j := 0) (by decide)
          have x1 : rd1U (Hx ab) (ao + i * 4 + 1) = some (.int .u8 x.k) := (hsG.le hl).el1 in23 hx (j := 1) (by decide)
          have x2 : rd1U (Hx ab) (ao + i * 4 + 2) = some (.int .u8 x.stan) := (hsG.le hl).el1 in23 hx (j := 2) (by decide)
          have x3 : rd1U (Hx ab) (ao + i * 4 + 3) = some (.int .u16 x.am) := (hsG.le hl).el1 in23 hx (j := 3) (by decide))
        all_goals try (simp (disch := first | omega | assumption | decide | (simp <;> omega) | fail) [facts, e2, e10, hltI, x0, x1, x2, x3]; done)
        · simp (disch := first | omega | assumption | decide | (simp <;> omega) | fail) [facts, ]
          refine (hrc Hx).mono ?_
          rintro v H' ⟨rfl, hle'⟩
          simp (disch := first | omega | assumption | decide | (simp <;> omega) | fail) [facts, ]
          exact hle'
        · simp (disch := first | omega | assumption | decide | (simp <;> omega) | fail) [facts, ]
          refine fresh_intro fun b hb => ?_
          simp (disch := first | omega | assumption | decide | (simp <;> omega) | fail) [facts, ]
          exact ⟨le_upd _ hb, le_of_none hl hb⟩
      intro f G2 hle2 hkn
      replace hkn : (∃ b, f 11 = .pointer (some ⟨b, 0, none⟩) ∧ G b = none ∧ G2 b = some (.row true 0 [.int .i64 0, .int .u16 0, .int .u32 0, .string (mkS []), .int .i64 0, .int .i64 0, .int .i64 0, .int .i64 0, .int .i64 0, .int .i64 0, .int .i64 0, .int .i64 0, .int .i64 0, .int .i64 0, .int .i64 0, .int .i64 0, .int .i64 0] 0)) := by simpa using hkn
      obtain ⟨b11, f11, hb11, r11⟩ := hkn
      have hb11F := le_of_none hTw.t.fle hb11
      have keep := fun o => hTw.t.keep3 hle2 hb11F (le_of_none hTw.t.ale hb11) (le_of_none hTw.t.ble hb11) o
      have x3 : rd1U (G2 ab) (ao + i * 4 + 3) = some (.int .u16 x.am) := (hsG.le hle2).el1 in23 hx (j := 3) (by decide)
      have habG : ab ≠ b11 := fun e => by
        subst e
        obtain ⟨hb, _⟩ : ∃ o, G ab = some o ∧ True := by
          have q0 : rd1U (G ab) (ao + i * 4) = some (.int .u8 x.kind) := hsG.el1 in23 hx (j := 0) (by decide)
          cases hg : G ab with
          | none => rw [hg] at q0; simp [rd1U] at q0
          | some o => exact ⟨o, rfl, trivial⟩
        rw [hb11] at *
        simp_all
      simp (disch := first | omega | assumption | decide | (simp <;> omega) | fail) [facts, f11, r11, hsp, rl17, rl1]
      simp (disch := first | omega | assumption | decide | (simp <;> omega) | fail) [facts, g0, g0b]
      have x3b : rd1U ((upd G2 b11 (.row true 0 rl 0)) ab) (ao + i * 4 + 3) = some (.int .u16 x.am) := by rw [upd_ne _ _ habG]; exact x3
      refine cond_cut3 J ?_ ?_
      · by_cases h6 : r.kind = 6
        · obtain ⟨z, hz⟩ : ∃ z : Int, ((x.am : Int) % 700) = z := ⟨_, rfl⟩
          have hz0 : 0 ≤ z ∧ z < 700 := by omega
          have hwz : IntKind.wrap .i64 z = z := by rw [IntKind.wrap_i64]; omega
          have hrl4 : rl.set 4 (.int .i64 z) = recL { r with amount := z } := by rw [hrl]; rfl
          simp (disch := first | omega | assumption | decide | (simp <;> omega) | fail) [facts, eq_true h6, e2, e10, f11, hltI, x3b, hz, hwz, upd_upd, rl17, hrl4]
          subst hJ
          exact ⟨by simp [e2], by simp [e8], by simp [e9], by simp [e10], b11, upd F b11 (.row true 0 (recL { r with amount := z }) 0), { r with amount := z }, by simp [f11], hrt, hrl2, Heap.le_trans hF (le_upd _ hb11F), upd_same _ _ _, keep _⟩
        · simp (disch := first | omega | assumption | decide | (simp <;> omega) | fail) [facts, h6]
          subst hJ
          exact ⟨by simp [e2], by simp [e8], by simp [e9], by simp [e10], b11, upd F b11 (.row true 0 rl 0), r, by simp [f11], hrt, hrl2, Heap.le_trans hF (le_upd _ hb11F), by rw [upd_same, hrl], keep _⟩
      clear e2 e8 e9 e10 keep x3 x3b hb11 r11 hsG hsp rl17 rl1 g0 g0b hrc hrt hrl2 er hrl hr f11 hle2
      rintro ⟨env, G3⟩ hII
      subst hJ
      obtain ⟨e2, e8, e9, e10, b12, F2, r2, e11, hrt, hrl2, hF2, r12F, t3⟩ := hII
      simp only at e2 e8 e9 e10 e11 t3
      have hT3 := hTw.frame t3
      have hCu3 := hCu.go hTw.ok r2 hrt.1 hrt.2
      have er : recV r2 = .agg (recL r2).toArray := rfl
      have cd := do20_c hT3 r2 hrt.1 hrt.2 hrl2
      obtain ⟨sl, hsl⟩ : ∃ rl, rl = recL r2 := ⟨_, rfl⟩
      rw [← hsl] at er r12F
      have sl17 : sl.length = 17 := by rw [hsl]; rfl
      have k17 : List.take 17 sl = sl := List.take_of_length_le (by omega)
      have r12 := t3.fle _ _ r12F
      rw [er] at cd
      simp (disch := first | omega | assumption | decide | (simp <;> omega) | fail) [facts, e8, e11, r12, sl17, k17]
      refine cd.mono ?_
      rintro v G4 ⟨rfl, A4, M4, t4, hB4, hp4⟩
      have r12' := t4.fle _ _ r12F
      have cr := rdo20_c hT3 r2 hrt.1 hrt.2 hrl2 t4 hB4 hp4
      rw [er] at cr
      simp (disch := first | omega | assumption | decide | (simp <;> omega) | fail) [facts, e9, e11, r12', sl17, k17]
      refine cr.mono ?_
      rintro v G5 ⟨rfl, B5, lv5, W5, hT5⟩
      simp (disch := first | omega | assumption | decide | (simp <;> omega) | fail) [facts, e10]
      exact ⟨_, Heap.le_refl _, ⟨i + 1, F2, A4, B5, M4, lv5, W5, _, by omega, by simp [e2], by simp [e8], by simp [e9], by simp, hF2, hT5, hCu3⟩, by simp [intOf, e10]; omega⟩
    · have hltI : ¬ (i : Int) < (n : Int) := by omega
      have hin : i = n := by omega
      subst hin
      simp (disch := first | omega | assumption | decide | (simp <;> omega) | fail) [facts, e2, e10, hltI]
      subst hI
      exact ⟨F, A, B, M, lv, W, b, by simp [e8], by simp [e9], hF, hTw, hCu⟩
  · clear e2 e8 e9 hTw
    rintro ⟨env, G⟩ hII
    subst hI
    obtain ⟨F, A, B, M, lv, W, b, e8, e9, hF, hTw, hCu⟩ := hII
    simp only at e8 e9 hTw
    obtain ⟨t0, hB, hR, hp, hW, hok⟩ := hTw
    have hTabG : TabH G := hTab.le (Heap.le_trans hF t0.fle)
    have hCk := hCu.ok hok (by omega) hTabG
    have hc1 := cutover_c G p fv tv m M b.L b.T (hB.le t0.ale) hp hCk
    have hWl : W.length = b.T.length := by rw [← hW]; exact (List.length_map ..).symm
    have hg : ∀ t ∈ b.L, 0 ≤ t.given ∧ t.given ≤ 1000000 := fun t ht => okT_given (hok.ok t ht)
    have hrc := rcutover_c G q tv2 lv W b.L (hR.le t0.ble) hCk.few (by rw [hWl]; exact hok.few) hg hCu.ter (fun i hi => by rw [hW]; have := hCk.cut (k := i) (by omega); have := hok.few; omega)
    rw [hWl, hW] at hrc
    have hL4 := hok.len
    have hrow := t0.ble _ _ hR.row
    obtain ⟨cz, hcz⟩ : ∃ cz, cutZ b.L b.T b.T.length = cz := ⟨_, rfl⟩
    rw [hcz] at hc1 hrc
    simp (disch := first | omega | assumption | decide | (simp <;> omega) | fail) [facts, e8]
    refine hc1.mono ?_
    rintro v G1 ⟨rfl, rfl⟩
    simp (disch := first | omega | assumption | decide | (simp <;> omega) | fail) [facts, e8]
    refine hc1.mono ?_
    rintro v G1 ⟨rfl, rfl⟩
    simp (disch := first | omega | assumption | decide | (simp <;> omega) | fail) [facts, ]
    refine w_plan (P := Tryz.prog) (by simp [facts]) (opsP [0,1,2,3,4,5,6,7,8,9,10,11,12,13,14,15,16,18,19,20] (.both (opsP [17,21,22,23,24] .done) (opsP [21,17,22,23,24] .done))) ?_ ?_
    · decide +kernel
    simp (disch := first | omega | assumption | decide | (simp <;> omega) | fail) [facts, e8, e9]
    refine hrc.mono ?_
    rintro v G2 ⟨rfl, hle2⟩
    have t2 := t0.grow hle2
    have hr2 := t2.ble _ _ hR.row
    simp (disch := first | omega | assumption | decide | (simp <;> omega) | fail) [facts, e8, e9, hr2]
    repeat' apply And.intro
    all_goals
      refine (all_c G2 p fv tv m M b.L b.T (hB.le t2.ale) hp hok.ord (by omega)).mono ?_
      rintro v H1 ⟨U, ow, hl⟩
      have t1 := t2.grow ow.all
      obtain ⟨a1, c1, rfl, hs1, _⟩ := hl.sl ow.le
      obtain ⟨a2, c2, rfl, hs2, _⟩ := hR.lst.sl t1.ble
      have hr1 := t1.ble _ _ hR.row
      simp (disch := first | omega | assumption | decide | (simp <;> omega) | fail) [facts, hr1]
      refine (txns_c a1 a2 b.L.length c1 c2 b.L H1 hs1 hs2 (by omega)).mono ?_
      rintro v H2 ⟨rfl, rfl⟩
      simp (disch := first | omega | assumption | decide | (simp <;> omega) | fail) [facts, ]
      exact ⟨_, Heap.le_refl _⟩
end Go.Proofs.YtfpighmafofoeaaGreatDoor.GL

namespace Go.Proofs.YtfpighmafofoeaaGreatDoor.GL
open Go Go.RowKit
set_option maxRecDepth 10000
set_option pp.deepTerms.threshold 8
set_option pp.maxSteps 3000
set_option linter.unusedSimpArgs false
set_option linter.unusedVariables false

theorem tabNamed : Tryz.prog.globalNamed "internal/strconv.uint64pow10" = some 0 := by kernel_rfl
theorem tabType : (Tryz.prog.globals[0]?).map (·.type) = some 180 := by kernel_rfl
theorem tab_eq : (Rows.laid_internal_strconv_uint64pow10 : DataW Unit) = Lib.tabData .u64 Lib.pow10Tab := by kernel_rfl
theorem tab_of {W : World} (h : laidMetH Tryz.prog Rows.cutoverTellsRow.laid W) : Lib.TabIs Tryz.prog W "internal/strconv.uint64pow10" .u64 Lib.pow10Tab := by
  rw [MakeChecks.laidMetH_plain _ _ _ (by kernel_rfl)] at h
  have h2 := h.tail.tail
  rw [tab_eq] at h2
  exact Lib.tabIs_of_head tabNamed tabType Tryz.underlying180 Tryz.underlying139 (by kernel_rfl) (by kernel_rfl) h2
/-- All of the memory's rows, and the table's block as it is. -/
def tabW (W : World) : Heap := fun b => if b = 0 then (W.heap[b]?).map GObj.obj else heapOf W b
theorem sat_tabW (W : World) : Sat W W (tabW W) := ⟨Below.refl _ _, fun b o e => by
  unfold tabW at e
  by_cases hb : b = 0
  · rw [if_pos hb] at e
    obtain ⟨ob, h1, rfl⟩ := Option.map_eq_some_iff.1 e
    exact h1
  · rw [if_neg hb] at e
    exact (sat_heapOf W).rep b o e⟩
theorem tabIs_block {W : World} (h : Lib.TabIs Tryz.prog W "internal/strconv.uint64pow10" .u64 Lib.pow10Tab) : ∃ t f, W.heap[0]? = some (.cells (Lib.pow10Tab.map fun z => Value.int .u64 z).toArray t f) := by
  unfold Lib.TabIs World.var? at h
  rw [tabNamed] at h
  simp only [Option.bind_some] at h
  split at h
  · rename_i cs t f hb
    injection h with h
    exact ⟨t, f, by rw [hb, h]⟩
  · cases h
theorem tabH_of {W : World} (h : Lib.TabIs Tryz.prog W "internal/strconv.uint64pow10" .u64 Lib.pow10Tab) : TabH (tabW W) := by
  obtain ⟨t, f, hb⟩ := tabIs_block h
  refine ⟨.cells (Lib.pow10Tab.map fun z => Value.int .u64 z).toArray t f, ?_, fun w hw => ?_⟩
  · unfold tabW
    rw [if_pos rfl, hb]
    rfl
  · unfold Lib.TabIs World.var?
    rw [tabNamed]
    simp only [Option.bind_some, hw]
theorem SlA.off {H H2 : Heap} {g : Nat} {a : Option Addr} {n s : Nat} {cs : List Value} (h : SlA H a n s cs) (hH : ∀ b, b ≠ g → H2 b = H b) (ha : ∀ b o, a = some ⟨b, o, none⟩ → 0 < n → b ≠ g) : SlA H2 a n s cs := by
  rcases Nat.eq_zero_or_pos n with hn | hn
  · subst hn
    exact ⟨h.plain, h.there, h.len, fun k hk => by omega, fun k m hm hk => by omega⟩
  · obtain ⟨b, o, rfl⟩ := h.lit hn
    have hne := ha b o rfl hn
    have e := hH b hne
    refine ⟨h.plain, h.there, h.len, fun k hk => ?_, fun k m hm hk => ?_⟩
    · rw [← h.get k hk]
      simp only [at1, rd1, e]
    · rw [← h.getN k m hm hk]
      simp only [atN, rdN, e]
theorem in23_tab {W : World} {a : Option Addr} {n : Nat} {L : List In23} (h : SlA (heapOf W) a n 4 (rowsC In23.cells L)) (hT : Lib.TabIs Tryz.prog W "internal/strconv.uint64pow10" .u64 Lib.pow10Tab) : SlA (tabW W) a n 4 (rowsC In23.cells L) := by
  refine h.off (g := 0) (fun b hb => by unfold tabW; rw [if_neg hb]) fun b o ha hn hb => ?_
  subst ha
  have hlen : L.length = n := h.els in23 (by decide)
  obtain ⟨x, hx⟩ : ∃ x, L[0]? = some x := ⟨_, List.getElem?_eq_getElem (by omega)⟩
  have h0 := h.el1 in23 hx (j := 0) (by decide)
  obtain ⟨t, f, hbl⟩ := tabIs_block hT
  have hH : heapOf W b = some (.row false 0 (Lib.pow10Tab.map fun z => Value.int .u64 z) 0) := by
    unfold heapOf
    rw [hb, hbl]
  rw [hH, rd1U_row (Nat.zero_le _), List.getElem?_map] at h0
  cases hz : Lib.pow10Tab[o + 0 * 4 + 0 - 0]? with
  | none => rw [hz] at h0; cases h0
  | some z => rw [hz] at h0; cases h0
def in23Leaves : List Leaf := [.int .u8, .int .u8, .int .u8, .int .u16]
theorem in23_is {M : Heap} {cs : List Value} (h : Fits M in23Leaves cs) : ∃ x : In23, x.wf ∧ cs = x.cells := by
  unfold in23Leaves at h
  obtain ⟨v0, q0, rfl, ⟨kind, rfl, wkind⟩, g0⟩ := h.cons
  obtain ⟨v1, q1, rfl, ⟨k, rfl, wk⟩, g1⟩ := g0.cons
  obtain ⟨v2, q2, rfl, ⟨stan, rfl, wstan⟩, g2⟩ := g1.cons
  obtain ⟨v3, q3, rfl, ⟨amo, rfl, wamo⟩, g3⟩ := g2.cons
  obtain rfl := g3.nil
  have b1 := (u8_wf kind).1 wkind
  have b2 := (u8_wf k).1 wk
  have b3 := (u8_wf stan).1 wstan
  have b4 := (u16_wf amo).1 wamo
  refine ⟨⟨kind.toNat, k.toNat, stan.toNat, amo.toNat⟩, ⟨by show kind.toNat < 256; omega, by show k.toNat < 256; omega, by show stan.toNat < 256; omega, by show amo.toNat < 65536; omega⟩, ?_⟩
  unfold In23.cells
  rw [Int.toNat_of_nonneg b1.1, Int.toNat_of_nonneg b2.1, Int.toNat_of_nonneg b3.1, Int.toNat_of_nonneg b4.1]
theorem in23s_of {M : Heap} {xs : List Value} {n : Nat} (hl : xs.length = n * 4) (h : ∀ i, i < n → Fits M in23Leaves ((xs.drop (i * 4)).take 4)) : ∃ L : List In23, xs = rowsC In23.cells L ∧ ∀ x ∈ L, x.wf := by
  obtain ⟨L, e, _, hL⟩ := rows_list in23 hl fun i hi => in23_is (h i hi)
  exact ⟨L, e, hL⟩
theorem ECalls.worldT {f : FuncId} {args : Array Value} {K : Kont} (W : World) (h : ECalls Tryz.prog f args (tabW W) K) :
    Calls Tryz.prog f args W fun e W' => ∃ v H', e = .returned v ∧ K v H' ∧ Below W.heap.size W W' :=
  (h W W (sat_tabW W)).mono fun _ _ ⟨v, H', he, hK, hs⟩ => ⟨v, H', he, hK, hs.below⟩
end Go.Proofs.YtfpighmafofoeaaGreatDoor.GL
