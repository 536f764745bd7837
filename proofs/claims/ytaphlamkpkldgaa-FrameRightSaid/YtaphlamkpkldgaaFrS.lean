/- Layer 4: FrameRow. -/
import Derived.Test.YtaphlamkpkldgaaFrR
namespace Go.Proofs.Ytaphlamkpkldgaa.GL
open Go Go.RowKit
set_option maxRecDepth 10000
set_option pp.deepTerms.threshold 8
set_option pp.maxSteps 3000
set_option linter.unusedSimpArgs false
set_option linter.unusedVariables false

theorem read_cut (r : RZ) (hr : r.right = true) (j : Nat) (hj : j < (putB r).length) : readZ ((putB r).take j) = (zeroZ, 0, 23) := by
  have hbl := bodyB_len r
  have hp := pan_le hr
  have hlen := putB_len r
  have hn : (UInt8.ofNat (bodyB r).length).toNat = (bodyB r).length := by rw [UInt8.toNat_ofNat']; omega
  have e : putB r = 165 :: UInt8.ofNat (bodyB r).length :: (bodyB r ++ bytesL (crcN (bodyB r)) 4) := by simp [putB]
  have hlt : ((putB r).take j).length = j := by rw [List.length_take]; omega
  by_cases h2 : j < 2
  · exact readZ_short (by omega)
  · obtain ⟨i, rfl⟩ : ∃ i, j = i + 2 := ⟨j - 2, by omega⟩
    rw [e] at hlt ⊢
    rw [List.take_succ_cons, List.take_succ_cons] at hlt ⊢
    unfold readZ
    simp only [hlt, hn]
    rw [if_pos (.inr (.inl (by omega)))]
def rowR (ks : List UInt8) (k i : Nat) : RZ := recS (ks.getD i 0).toNat k i (k + i)
def rowB (ks : List UInt8) (k : Nat) : Nat → List UInt8
  | 0 => []
  | j + 1 => rowB ks k j ++ putB (rowR ks k j)
def endsL (ks : List UInt8) (k j : Nat) : List Value := (List.range j).map fun i => .int .i64 ((rowB ks k (i + 1)).length : Nat)
theorem endsL_len (ks : List UInt8) (k j : Nat) : (endsL ks k j).length = j := by simp [endsL]
theorem endsL_succ (ks : List UInt8) (k j : Nat) : endsL ks k (j + 1) = endsL ks k j ++ [.int .i64 ((rowB ks k (j + 1)).length : Nat)] := by simp [endsL, List.range_succ]
theorem endsL_at (ks : List UInt8) (k : Nat) {j n : Nat} (h : j < n) : (endsL ks k n)[j]? = some (.int .i64 ((rowB ks k (j + 1)).length : Nat)) := by simp [endsL, h]
theorem endsL_one (ks : List UInt8) (k j : Nat) : (endsL ks k j).all (·.oneCell') = true := List.all_eq_true.2 fun v hv => by
  obtain ⟨i, _, rfl⟩ := List.mem_map.1 hv
  rfl
theorem rowR_ok (ks : List UInt8) (k i : Nat) (hk : k < 256) (hi : i < 256) : (rowR ks k i).right = true ∧ (rowR ks k i).wf := recS_right _ _ _ _ hk hi
theorem rowB_le (ks : List UInt8) (k : Nat) (hk : k < 256) : ∀ j, j ≤ 20 → (rowB ks k j).length ≤ j * 61
  | 0, _ => by simp [rowB]
  | j + 1, h => by
    have := rowB_le ks k hk j (by omega)
    have h1 := putB_len (rowR ks k j)
    have h2 := pan_le (rowR_ok ks k j hk (by omega)).1
    rw [rowB, List.length_append]; omega
theorem rowB_split (ks : List UInt8) (k : Nat) {i : Nat} : ∀ {n : Nat}, i < n → ∃ rest, rowB ks k n = rowB ks k i ++ (putB (rowR ks k i) ++ rest)
  | 0, h => by omega
  | n + 1, h => by
    by_cases e : i = n
    · subst e; exact ⟨[], by rw [rowB, List.append_nil]⟩
    · obtain ⟨rest, hr⟩ := rowB_split ks k (i := i) (n := n) (by omega)
      exact ⟨rest ++ putB (rowR ks k n), by rw [rowB, hr]; simp only [List.append_assoc]⟩
/-- What stands at the i-th place of a row that is cut. -/
theorem row_at (ks : List UInt8) (k i n m : Nat) (hk : k < 256) (hn : n ≤ 20) (h : i < n) (hm : m ≤ (rowB ks k n).length) (hi : (rowB ks k i).length ≤ m) :
    readZ (((rowB ks k n).take m).drop (rowB ks k i).length) = if (rowB ks k (i + 1)).length > m then (zeroZ, 0, 23) else (rowR ks k i, (putB (rowR ks k i)).length, 0) := by
  obtain ⟨rest, hr⟩ := rowB_split ks k h
  obtain ⟨hR, hw⟩ := rowR_ok ks k i hk (by omega)
  have e : ((rowB ks k n).take m).drop (rowB ks k i).length = (putB (rowR ks k i) ++ rest).take (m - (rowB ks k i).length) := by
    rw [List.drop_take, hr, List.drop_left]
  have hl : (rowB ks k (i + 1)).length = (rowB ks k i).length + (putB (rowR ks k i)).length := by rw [rowB, List.length_append]
  rw [e]
  by_cases hgt : (rowB ks k (i + 1)).length > m
  · rw [if_pos hgt, List.take_append_of_le_length (by omega)]
    exact read_cut _ hR _ (by omega)
  · rw [if_neg hgt, List.take_append, List.take_of_length_le (l := putB _) (by omega)]
    exact read_put _ hR hw _
def fw1Inv (F : Heap) (a : Option Addr) (n c k cut : Nat) (ks : List UInt8) (st : St) : Prop :=
  ∃ (j : Nat) (A B : Heap), j ≤ n ∧ st.env 0 = .slice a n c ∧ st.env 1 = .int .u8 k ∧ st.env 2 = .int .u16 cut ∧ st.env 9 = .int .i64 j ∧ TwoO F A B st.heap ∧ LB A (st.env 7) (rowB ks k j) ∧ LstR B (st.env 8) 1 j (endsL ks k j)
def fw2Inv (F : Heap) (a : Option Addr) (n c k m : Nat) (v7 v8 : Value) (ks : List UInt8) (st : St) : Prop :=
  ∃ j : Nat, j ≤ n ∧ st.env 0 = .slice a n c ∧ st.env 1 = .int .u8 k ∧ st.env 7 = v7 ∧ st.env 8 = v8 ∧ st.env 12 = .int .i64 ((rowB ks k j).length : Nat) ∧ st.env 13 = .int .i64 j ∧ (rowB ks k j).length ≤ m ∧ Heap.le F st.heap
set_option maxHeartbeats 2000000 in
theorem frameRow_c (a : Option Addr) (n c : Nat) (ks : List UInt8) (k cut : Nat) (H : Heap) (h : SlA H a n 1 (ks.map u8V)) (hc : n ≤ c) (hk : k < 256) (hcut : cut < 65536) :
    ECalls Try.prog 6 #[.slice a n c, .int .u8 k, .int .u16 cut] H fun v _ => v = .bool true := by
  refine ecalls_of_ewp (args := [_, _, _]) Try.func6 rfl rfl rfl (by simp [Try.ntmps6]) (by kernel_rfl) ?_
  have hl : ks.length = n := by simpa using h.len
  simp (disch := first | omega | assumption | decide | (simp <;> omega) | fail) [facts, ]
  refine (known_c H).mono ?_
  rintro v H2 ⟨rfl, hl2⟩
  by_cases hn : n ≤ 20
  case neg =>
    have hnI : (20 : Int) < (n : Int) := by omega
    simp (disch := first | omega | assumption | decide | (simp <;> omega) | fail) [facts, hnI]
    exact ⟨_, Heap.le_refl _⟩
  have hnI : ¬ (20 : Int) < (n : Int) := by omega
  simp (disch := first | omega | assumption | decide | (simp <;> omega) | fail) [facts, hnI]
  refine w_loop (fw1Inv H2 a n c k cut ks) (fun st => n - (intOf (st.env 9)).toNat) ?_ ?_
  · exact ⟨0, fun _ => none, fun _ => none, Nat.zero_le _, by simp, by simp, by simp, by simp, ⟨Heap.le_refl _, (fun _ _ e => (by cases e)), (fun _ _ e => (by cases e)), Off.nil, Off.nil, Off.nil⟩, .inl ⟨by simp, rfl, rfl⟩, .inl ⟨by simp, rfl, rfl⟩⟩
  rintro ⟨env, G⟩ ⟨j, A, B, hj, e0, e1, e2, e9, tw, hl7, hl8⟩
  simp only at e0 e1 e2 e9 tw hl7 hl8
  have hrow := rowB_le ks k hk
  by_cases hlt : j < n
  · have hltI : (j : Int) < (n : Int) := by omega
    obtain ⟨x, hx⟩ : ∃ x, ks[j]? = some x := ⟨_, List.getElem?_eq_getElem (by omega)⟩
    have hG := Heap.le_trans hl2 tw.fle
    have gx := (h.le hG).at hx
    rw [u8V_def] at gx
    have px := h.plain
    have tx := h.there (by omega)
    have hxb := x.toNat_lt
    generalize e7 : env 7 = v7 at hl7
    generalize e8 : env 8 = v8 at hl8
    obtain ⟨hsr, hsw⟩ := rowR_ok ks k j hk (by omega)
    have hsE : rowR ks k j = recS x.toNat k j (k + j) := by
      unfold rowR
      rw [List.getD_eq_getElem?_getD, hx]; rfl
    have hp := pan_le hsr
    have hE : putE (rowR ks k j) = 0 := by simp [putE, hsr]
    have hX : putX (rowR ks k j) = putB (rowR ks k j) := by simp [putX, hsr]
    have hlen := putB_len (rowR ks k j)
    have hr1 := hrow j (by omega)
    have hr2 := hrow (j + 1) (by omega)
    have hsucc : rowB ks k (j + 1) = rowB ks k j ++ putB (rowR ks k j) := rfl
    have cc := rec_c x.toNat k j (k + j) hxb hk (by omega) (by omega) G (rowR ks k j) hsE
    rw [show (((k + j : Nat) : Int)) = (k : Int) + (j : Int) by omega] at cc
    simp (disch := first | omega | assumption | decide | (simp <;> omega) | fail) [facts, e0, e1, e9, hltI, gx, px, tx]
    refine cc.mono ?_
    rintro v G3 ⟨rfl, hl3⟩
    generalize rowR ks k j = s at *
    simp (disch := first | omega | assumption | decide | (simp <;> omega) | fail) [facts, ]
    refine (fputA_c s G3 hsw (by omega)).mono ?_
    rintro v G4 ⟨sv, rfl, R, ow, hlb⟩
    rw [hE]
    rw [hX] at hlb
    obtain ⟨a4, c4, rfl, hs4, _⟩ := LstR.sl hlb ow.le
    have tw4 := (tw.grow hl3).grow ow.all
    simp (disch := first | omega | assumption | decide | (simp <;> omega) | fail) [facts, e7]
    refine app_b hl7 (Own.refl tw4.ale) ⟨_, _, _, rfl, hs4⟩ (by omega) ?_
    intro v' G5 A' owA hlA _
    rw [← hsucc] at hlA
    have tw5 := tw4.left owA
    obtain ⟨a5, c5, rfl, hs5, _⟩ := LstR.sl hlA tw5.ale
    simp (disch := first | omega | assumption | decide | (simp <;> omega) | fail) [facts, e8]
    refine fresh_intro fun b hb => ?_
    have tw6 := tw5.grow (le_upd (.row true 0 [.int .i64 ((rowB ks k (j + 1)).length : Nat)] 0) hb)
    simp (disch := first | omega | assumption | decide | (simp <;> omega) | fail) [facts, e8]
    refine hl8.app (H0 := upd G5 b (.row true 0 [.int .i64 ((rowB ks k (j + 1)).length : Nat)] 0)) (B0 := B) (e := 3) (s := 1) (nbs := 8) (z := .int .i64 0) (m := 1) (ys := [.int .i64 ((rowB ks k (j + 1)).length : Nat)]) (by simp [facts]) (by simp [facts]) (by simp [facts]) (by simp [facts]) rfl (by decide) (Own.refl tw6.ble)
      (srcOne (e1 := 3) (z := .int .i64 0) (by simp [facts]) (by simp [facts]) (by simp [facts]) rfl) rfl rfl (by omega) ?_
    intro v8' G7 B' owB hlB _ _
    have tw7 := tw6.right owB
    simp (disch := first | omega | assumption | decide | (simp <;> omega) | fail) [facts, e9]
    refine ⟨_, Heap.le_refl _, ⟨j + 1, A', B', by omega, by simp [e0], by simp [e1], by simp [e2], by simp, tw7, ?_, ?_⟩, by simp [intOf, e9]; omega⟩
    · simpa using hlA
    · rw [endsL_succ]; simpa using hlB
  have hjn : j = n := by omega
  subst hjn
  obtain ⟨L, hL⟩ : ∃ L, L = (rowB ks k j).length := ⟨_, rfl⟩
  have hLb := hrow j (by omega)
  obtain ⟨a7, c7, e7, hs7, hc7⟩ := LstR.sl hl7 tw.ale
  obtain ⟨a8, c8, e8, hs8, hc8⟩ := LstR.sl hl8 tw.ble
  rw [← hL] at e7 hs7 hc7 hLb
  obtain ⟨m, hm⟩ : ∃ m, m = cut % (L + 1) := ⟨_, rfl⟩
  have hmL : m ≤ L := by have := Nat.mod_lt cut (show 0 < L + 1 by omega); omega
  have hmI : (cut : Int) % ((L : Int) + 1) = (m : Int) := by rw [hm]; push_cast; rfl
  have hmc : (m : Int) ≤ (c7 : Int) := by omega
  have hL1 : ¬ (L : Int) + 1 = 0 := by omega
  simp (disch := first | omega | assumption | decide | (simp <;> omega) | fail) [facts, e0, e1, e2, e7, e8, e9, hmI, hmc, hL1]
  have hs7m := hs7.hd hmL
  have hG := Heap.le_trans hl2 tw.fle
  refine w_loop (fw2Inv G a j c k m (.slice a7 m c7) (.slice a8 j c8) ks) (fun st => j - (intOf (st.env 13)).toNat) ?_ ?_
  · exact ⟨0, Nat.zero_le _, by simp [e0], by simp [e1], by simp, by simp [e8], by simp [rowB], by simp, by simp [rowB], Heap.le_refl _⟩
  clear hs7 hl7 hl8 tw e7 e8 e9 e0 e1 e2
  rintro ⟨env, G2⟩ ⟨i, hi, e0, e1, e7, e8, e12, e13, him, hle⟩
  simp only at e0 e1 e7 e8 e12 e13 hle
  by_cases hij : i < j
  case neg =>
    have hij' : i = j := by omega
    subst hij'
    have hLm : (rowB ks k i).length = m := by omega
    simp (disch := first | omega | assumption | decide | (simp <;> omega) | fail) [facts, e0, e1, e7, e8, e12, e13, hLm]
    exact ⟨_, Heap.le_refl _⟩
  have hijI : (i : Int) < (j : Int) := by omega
  have hat := row_at ks k i j m hk hn hij (by omega) him
  obtain ⟨hsr, hsw⟩ := rowR_ok ks k i hk (by omega)
  have hlen := putB_len (rowR ks k i)
  have hp := pan_le hsr
  have hsucc : (rowB ks k (i + 1)).length = (rowB ks k i).length + (putB (rowR ks k i)).length := by rw [rowB, List.length_append]
  have hb1 := hrow (i + 1) (by omega)
  have g8 : at1 G2 a8 i = some (.int .i64 ((rowB ks k (i + 1)).length : Nat)) := ((hs8.le hle).get i (by omega)).trans (endsL_at ks k hij)
  have px8 := hs8.plain
  have tx8 := hs8.there (by omega)
  have hs7t := (hs7m.le hle).tl (c := c7) (l := (rowB ks k i).length) him (by omega)
  generalize hR : rowR ks k i = R at *
  obtain ⟨t, ht⟩ : ∃ t, t = (rowB ks k i).length := ⟨_, rfl⟩
  obtain ⟨t', ht'⟩ : ∃ t', t' = (rowB ks k (i + 1)).length := ⟨_, rfl⟩
  rw [← ht'] at g8 hat hsucc hb1
  rw [← ht] at e12 him hat hsucc hs7t
  have htm : (t : Int) ≤ (m : Int) := by omega
  by_cases hgt : t' > m
  · rw [if_pos hgt] at hat
    have hgtI : (m : Int) < (t' : Int) := by omega
    simp (disch := first | omega | assumption | decide | (simp <;> omega) | fail) [facts, e0, e1, e7, e8, e12, e13, hijI, htm]
    refine (fread_c _ _ _ _ G2 hs7t (by omega) (by omega) zeroZ 0 23 hat).mono ?_
    rintro v G3 ⟨rfl, hl3⟩
    simp (disch := first | omega | assumption | decide | (simp <;> omega) | fail) [facts, ]
    refine fresh_intro fun b14 hb14 => ?_
    have g8' : at1 (upd G3 b14 (.row true 0 [.int .i64 0, .int .u16 0, .int .u32 0, .string ByteArray.empty, .int .i64 0, .int .i64 0, .int .i64 0, .int .i64 0, .int .i64 0, .int .i64 0, .int .i64 0, .int .i64 0, .int .i64 0, .int .i64 0, .int .i64 0, .int .i64 0, .int .i64 0] 0)) a8 i = some (.int .i64 (t' : Nat)) := by
      have hl14 := le_upd (.row true 0 [.int .i64 0, .int .u16 0, .int .u32 0, .string ByteArray.empty, .int .i64 0, .int .i64 0, .int .i64 0, .int .i64 0, .int .i64 0, .int .i64 0, .int .i64 0, .int .i64 0, .int .i64 0, .int .i64 0, .int .i64 0, .int .i64 0, .int .i64 0] 0) hb14
      rw [ht']
      exact ((hs8.le (Heap.le_trans hle (Heap.le_trans hl3 hl14))).get i (by omega)).trans (endsL_at ks k hij)
    simp (disch := first | omega | assumption | decide | (simp <;> omega) | fail) [facts, upd_upd, e7, e8, e13, g8', px8, tx8, hgtI, zeroZ, zeroN]
    exact ⟨_, Heap.le_refl _⟩
  rw [if_neg hgt] at hat
  have hgtI : ¬ (m : Int) < (t' : Int) := by omega
  simp (disch := first | omega | assumption | decide | (simp <;> omega) | fail) [facts, e0, e1, e7, e8, e12, e13, hijI, htm]
  refine (fread_c _ _ _ _ G2 hs7t (by omega) (by omega) R _ 0 hat).mono ?_
  rintro v G3 ⟨rfl, hl3⟩
  simp (disch := first | omega | assumption | decide | (simp <;> omega) | fail) [facts, ]
  refine fresh_intro fun b14 hb14 => ?_
  have hl14 := le_upd (.row true 0 [.int .i64 R.kind, .int .u16 R.t, .int .u32 R.s, .string R.pan, .int .i64 R.am, .int .i64 R.ns.a, .int .i64 R.ns.b, .int .i64 R.ns.c, .int .i64 R.ns.d, .int .i64 R.rs.a, .int .i64 R.rs.b, .int .i64 R.rs.c, .int .i64 R.rs.d, .int .i64 R.ls.a, .int .i64 R.ls.b, .int .i64 R.ls.c, .int .i64 R.ls.d] 0) hb14
  have r14 := upd_same G3 b14 (.row true 0 [.int .i64 R.kind, .int .u16 R.t, .int .u32 R.s, .string R.pan, .int .i64 R.am, .int .i64 R.ns.a, .int .i64 R.ns.b, .int .i64 R.ns.c, .int .i64 R.ns.d, .int .i64 R.rs.a, .int .i64 R.rs.b, .int .i64 R.rs.c, .int .i64 R.rs.d, .int .i64 R.ls.a, .int .i64 R.ls.b, .int .i64 R.ls.c, .int .i64 R.ls.d] 0)
  have g8' : at1 (upd G3 b14 (.row true 0 [.int .i64 R.kind, .int .u16 R.t, .int .u32 R.s, .string R.pan, .int .i64 R.am, .int .i64 R.ns.a, .int .i64 R.ns.b, .int .i64 R.ns.c, .int .i64 R.ns.d, .int .i64 R.rs.a, .int .i64 R.rs.b, .int .i64 R.rs.c, .int .i64 R.rs.d, .int .i64 R.ls.a, .int .i64 R.ls.b, .int .i64 R.ls.c, .int .i64 R.ls.d] 0)) a8 i = some (.int .i64 (t' : Nat)) := by
    rw [ht']
    exact ((hs8.le (Heap.le_trans hle (Heap.le_trans hl3 hl14))).get i (by omega)).trans (endsL_at ks k hij)
  simp (disch := first | omega | assumption | decide | (simp <;> omega) | fail) [facts, upd_upd, e7, e8, e13, g8', px8, tx8, hgtI]
  have hl4 := Heap.le_trans hl3 hl14
  clear hl14
  generalize upd G3 b14 (.row true 0 [.int .i64 R.kind, .int .u16 R.t, .int .u32 R.s, .string R.pan, .int .i64 R.am, .int .i64 R.ns.a, .int .i64 R.ns.b, .int .i64 R.ns.c, .int .i64 R.ns.d, .int .i64 R.rs.a, .int .i64 R.rs.b, .int .i64 R.rs.c, .int .i64 R.rs.d, .int .i64 R.ls.a, .int .i64 R.ls.b, .int .i64 R.ls.c, .int .i64 R.ls.d] 0) = G4 at *
  obtain ⟨x, hx⟩ : ∃ x, ks[i]? = some x := ⟨_, List.getElem?_eq_getElem (by omega)⟩
  have px := h.plain
  have tx := h.there (by omega)
  have hxb := x.toNat_lt
  have hsE : R = recS x.toNat k i (k + i) := by
    rw [← hR]
    unfold rowR
    rw [List.getD_eq_getElem?_getD, hx]; rfl
  have hsl4 := h.le (Heap.le_trans hG (Heap.le_trans hle hl4))
  refine w_growL (by simp [facts]) 19 [90,91,92,93,94,95,96,97,98,99,100,101,102,103,104,105,106,107,108] [.eq (.int .i64 0), .eq (.bool false), .eq (.bool false), .eq (.agg #[.int .i64 R.kind, .int .u16 R.t, .int .u32 R.s, .string R.pan, .int .i64 R.am, .int .i64 R.ns.a, .int .i64 R.ns.b, .int .i64 R.ns.c, .int .i64 R.ns.d, .int .i64 R.rs.a, .int .i64 R.rs.b, .int .i64 R.rs.c, .int .i64 R.rs.d, .int .i64 R.ls.a, .int .i64 R.ls.b, .int .i64 R.ls.c, .int .i64 R.ls.d]), .eq (.slice a j c), .eq (.int .i64 i), .eq (.pointer (a.map fun y => y.add i)), .eq (.int .u8 x.toNat), .eq (.int .u8 k), .eq (.int .i64 i), .eq (.int .u8 i), .eq (.int .u8 k), .eq (.int .u16 k), .eq (.int .i64 i), .eq (.int .u16 i), .eq (.int .u16 ((k : Int) + (i : Int))), .eq (.agg #[.int .i64 R.kind, .int .u16 R.t, .int .u32 R.s, .string R.pan, .int .i64 R.am, .int .i64 R.ns.a, .int .i64 R.ns.b, .int .i64 R.ns.c, .int .i64 R.ns.d, .int .i64 R.rs.a, .int .i64 R.rs.b, .int .i64 R.rs.c, .int .i64 R.rs.d, .int .i64 R.ls.a, .int .i64 R.ls.b, .int .i64 R.ls.c, .int .i64 R.ls.d]), .eq (.bool false), .eq (.bool false)] (by decide +kernel) rfl ?_ ?_
  · simp only [List.take_succ_cons, List.take_zero, allL_cons, allL_nil]
    refine ⟨?_, ?_, ?_, ?_, ?_, ?_, ?_, ?_, ?_, ?_, ?_, ?_, ?_, ?_, ?_, ?_, ?_, ?_, ?_, trivial⟩
    all_goals (unfold stepL; intro f Hx hl' ha; have hx' := hl' _ _ r14; have gx := (hsl4.le hl').at hx; rw [u8V_def] at gx)
    all_goals try (simp (disch := first | omega | assumption | decide | (simp <;> omega) | fail) [facts, hx', gx, px, tx, e0, e1, e13, hijI]; done)
    · have cc := rec_c x.toNat k i (k + i) hxb hk (by omega) (by omega) Hx R hsE
      rw [show (((k + i : Nat) : Int)) = (k : Int) + (i : Int) by omega] at cc
      simp (disch := first | omega | assumption | decide | (simp <;> omega) | fail) [facts, ]
      refine cc.mono ?_
      rintro v H' ⟨rfl, hl''⟩
      simp (disch := first | omega | assumption | decide | (simp <;> omega) | fail) [facts, ]
      exact hl''
  intro f G5 hl5 hkn
  clear hkn
  have g8'' : at1 G5 a8 i = some (.int .i64 (t' : Nat)) := by
    rw [ht']
    exact ((hs8.le (Heap.le_trans hle (Heap.le_trans hl4 hl5))).get i (by omega)).trans (endsL_at ks k hij)
  have htt : (t : Int) + ((putB R).length : Int) = (t' : Int) := by omega
  simp (disch := first | omega | assumption | decide | (simp <;> omega) | fail) [facts, e7, e8, e12, e13, g8'', px8, tx8, htt]
  exact ⟨_, Heap.le_refl _, ⟨i + 1, by omega, by simp [e0], by simp [e1], by simp [e7], by simp [e8], by simp [ht'], by simp, by omega, Heap.le_trans hle (Heap.le_trans hl4 hl5)⟩, by simp [intOf, e13]; omega⟩
end Go.Proofs.Ytaphlamkpkldgaa.GL
