/- Layer 4: the document's Read. -/
import Derived.Test.YtaphlamkpkldgaaFrK
namespace Go.Proofs.Ytaphlamkpkldgaa.GL
open Go Go.RowKit
set_option maxRecDepth 10000
set_option pp.deepTerms.threshold 8
set_option pp.maxSteps 3000
set_option linter.unusedSimpArgs false
set_option linter.unusedVariables false

theorem SlA.midL {H : Heap} {b o n : Nat} {bs : List UInt8} (hs : SlA H (some ⟨b, o, none⟩) n 1 (bs.map u8V)) (l k : Nat) (h2 : l + k ≤ n) : SlA H (some ⟨b, o + l, none⟩) k 1 (((bs.drop l).take k).map u8V) := by
  have h := hs.mid (c := n + l + 1) (l := l) (h := l + k) (by omega) h2 (by omega)
  rw [if_neg (by omega), Option.map_some, Addr.add_mid, show l + k - l = k by omega] at h
  exact h
theorem SlA.tlL {H : Heap} {b o n : Nat} {bs : List UInt8} (hs : SlA H (some ⟨b, o, none⟩) n 1 (bs.map u8V)) (l : Nat) (h2 : l ≤ n) : SlA H (some ⟨b, o + l, none⟩) (n - l) 1 ((bs.drop l).map u8V) := by
  have h := hs.tl (c := n + l + 1) (l := l) (by omega) (by omega)
  rw [if_neg (by omega), Option.map_some, Addr.add_mid] at h
  exact h
def recL (R : RZ) (X : List UInt8) (k : Nat) : List Value := [.int .i64 R.kind, .int .u16 R.t, .int .u32 R.s, .string R.pan, .int .i64 R.am] ++ (nzL (X.drop 11) k ++ (nzL (X.drop 19) k ++ nzL (X.drop 27) k))
theorem recL_len (R : RZ) (X : List UInt8) (k : Nat) : (recL R X k).length = 17 := by simp [recL, nzL_len]
theorem recL_set (R : RZ) (X : List UInt8) (k : Nat) (hk : k < 4) : (((recL R X k).set (5 + k) (.int .i64 (numN ((X.drop (11 + 2 * k)).take 2) : Nat))).set (9 + k) (.int .i64 (numN ((X.drop (19 + 2 * k)).take 2) : Nat))).set (13 + k) (.int .i64 (numN ((X.drop (27 + 2 * k)).take 2) : Nat)) = recL R X (k + 1) := by
  have e1 : numN ((X.drop (11 + 2 * k)).take 2) = numN (((X.drop 11).drop (2 * k)).take 2) := by rw [List.drop_drop]
  have e2 : numN ((X.drop (19 + 2 * k)).take 2) = numN (((X.drop 19).drop (2 * k)).take 2) := by rw [List.drop_drop]
  have e3 : numN ((X.drop (27 + 2 * k)).take 2) = numN (((X.drop 27).drop (2 * k)).take 2) := by rw [List.drop_drop]
  rw [e1, e2, e3]
  rcases k with _ | _ | _ | _ | k <;> first | rfl | omega
theorem recL_zero (R : RZ) (X : List UInt8) : recL R X 0 = [.int .i64 R.kind, .int .u16 R.t, .int .u32 R.s, .string R.pan, .int .i64 R.am, .int .i64 0, .int .i64 0, .int .i64 0, .int .i64 0, .int .i64 0, .int .i64 0, .int .i64 0, .int .i64 0, .int .i64 0, .int .i64 0, .int .i64 0, .int .i64 0] := rfl
theorem recL_all (R : RZ) (X : List UInt8) (hR : recOf X = R) : recL R X 4 = [.int .i64 R.kind, .int .u16 R.t, .int .u32 R.s, .string R.pan, .int .i64 R.am, .int .i64 R.ns.a, .int .i64 R.ns.b, .int .i64 R.ns.c, .int .i64 R.ns.d, .int .i64 R.rs.a, .int .i64 R.rs.b, .int .i64 R.rs.c, .int .i64 R.rs.d, .int .i64 R.ls.a, .int .i64 R.ls.b, .int .i64 R.ls.c, .int .i64 R.ls.d] := by
  subst hR
  have h : ∀ x : List UInt8, nzL x 4 = (nzAt x).cells := fun x => rfl
  unfold recL
  rw [h, h, h]
  rfl
def rdInv (H3 : Heap) (ab ao n c' b2 L b7 : Nat) (R : RZ) (X : List UInt8) (st : St) : Prop :=
  ∃ k : Nat, k ≤ 4 ∧ st.env 0 = .slice (some ⟨ab, ao, none⟩) n (c' + 2) ∧ st.env 2 = .pointer (some ⟨b2, 0, none⟩) ∧ st.env 5 = .int .i64 L ∧ st.env 6 = .slice (some ⟨ab, ao + 2, none⟩) L c' ∧ st.env 7 = .pointer (some ⟨b7, 0, none⟩) ∧ st.env 8 = .int .i64 k ∧ Keep b7 H3 st.heap ∧ st.heap b7 = some (.row true 0 (recL R X k) 0)
set_option maxHeartbeats 4000000 in
theorem rread_c (a : Option Addr) (n c : Nat) (bs : List UInt8) (H : Heap) (h : SlA H a n 1 (bs.map u8V)) (hc : n ≤ c) (hb : n ≤ 100000) (r : RZ) (k : Nat) (e : Int) (hq : readZ bs = (r, k, e)) :
    ECalls Try.prog 17 #[.slice a n c] H fun v H' => v = .tuple #[.agg #[.int .i64 r.kind, .int .u16 r.t, .int .u32 r.s, .string r.pan, .int .i64 r.am, .int .i64 r.ns.a, .int .i64 r.ns.b, .int .i64 r.ns.c, .int .i64 r.ns.d, .int .i64 r.rs.a, .int .i64 r.rs.b, .int .i64 r.rs.c, .int .i64 r.rs.d, .int .i64 r.ls.a, .int .i64 r.ls.b, .int .i64 r.ls.c, .int .i64 r.ls.d], .int .i64 k, .int .i64 e] ∧ Heap.le H H' := by
  refine ecalls_of_ewp (args := [_]) Try.func17 rfl rfl rfl (by simp [Try.ntmps17]) (by kernel_rfl) ?_
  have hl : bs.length = n := by simpa using h.len
  simp (disch := first | omega | assumption | decide | (simp <;> omega) | fail) [facts, ]
  refine fresh_intro fun b2 hb2 => ?_
  simp (disch := first | omega | assumption | decide | (simp <;> omega) | fail) [facts, upd_upd]
  have hl2 := le_upd (.row true 0 [.int .i64 0, .int .u16 0, .int .u32 0, .string ByteArray.empty, .int .i64 0, .int .i64 0, .int .i64 0, .int .i64 0, .int .i64 0, .int .i64 0, .int .i64 0, .int .i64 0, .int .i64 0, .int .i64 0, .int .i64 0, .int .i64 0, .int .i64 0] 0) hb2
  have hr2 := upd_same H b2 (.row true 0 [.int .i64 0, .int .u16 0, .int .u32 0, .string ByteArray.empty, .int .i64 0, .int .i64 0, .int .i64 0, .int .i64 0, .int .i64 0, .int .i64 0, .int .i64 0, .int .i64 0, .int .i64 0, .int .i64 0, .int .i64 0, .int .i64 0, .int .i64 0] 0)
  generalize upd H b2 (.row true 0 [.int .i64 0, .int .u16 0, .int .u32 0, .string ByteArray.empty, .int .i64 0, .int .i64 0, .int .i64 0, .int .i64 0, .int .i64 0, .int .i64 0, .int .i64 0, .int .i64 0, .int .i64 0, .int .i64 0, .int .i64 0, .int .i64 0, .int .i64 0] 0) = H2 at *
  by_cases h2 : n < 2
  · have h2I : (n : Int) < 2 := by omega
    rw [readZ_short (by omega)] at hq
    cases hq
    simp (disch := first | omega | assumption | decide | (simp <;> omega) | fail) [facts, h2I, hr2, zeroZ, zeroN]
    exact ⟨_, Heap.le_refl _, le_updN hl2 hb2 _⟩
  have h2I : ¬ (n : Int) < 2 := by omega
  obtain ⟨m, l, rest, hbs⟩ : ∃ m l rest, bs = m :: l :: rest := by
    match bs, hl with
    | [], hl => simp at hl; omega
    | [x], hl => simp at hl; omega
    | x :: y :: t, hl => exact ⟨x, y, t, rfl⟩
  obtain ⟨ab, ao, rfl⟩ := h.lit (by omega)
  have hs2 := h.le hl2
  have g0 : rd1U (H2 ab) ao = some (.int .u8 m.toNat) := (hs2.at (k := 0) (x := m) (by rw [hbs]; rfl))
  have g1 : rd1U (H2 ab) (ao + 1) = some (.int .u8 l.toNat) := (hs2.at (k := 1) (x := l) (by rw [hbs]; rfl))
  have hlb := l.toNat_lt
  have hmb := m.toNat_lt
  have hq2 : (if m.toNat ≠ 165 ∨ n < 6 + l.toNat ∨ l.toNat < 36 then (zeroZ, 0, 23) else
    if numN (((bodyOf bs l.toNat).drop 35).take 1) ≠ l.toNat - 36 ∨ (recOf (bodyOf bs l.toNat)).right = false then (zeroZ, 0, 23) else
    if numN ((bs.drop (2 + l.toNat)).take 4) ≠ crcN (bodyOf bs l.toNat) then (zeroZ, 0, 24) else (recOf (bodyOf bs l.toNat), 6 + l.toNat, (0 : Int))) = (r, k, e) := by
    rw [← hq, hbs]
    unfold readZ
    simp only [← hbs, hl]
  clear hq
  generalize hL : l.toNat = L at *
  by_cases hm : m.toNat = 165
  case neg =>
    have hmI : ¬ (m.toNat : Int) = 165 := by omega
    rw [if_pos (.inl hm)] at hq2
    cases hq2
    simp (disch := first | omega | assumption | decide | (simp <;> omega) | fail) [facts, h2I, hr2, g0, hmI, zeroZ, zeroN]
    exact ⟨_, Heap.le_refl _, le_updN hl2 hb2 _⟩
  have hmI : (m.toNat : Int) = 165 := by omega
  by_cases hn6 : n < 6 + L
  case pos =>
    have hnI : (n : Int) < 6 + (L : Int) := by omega
    rw [if_pos (.inr (.inl hn6))] at hq2
    cases hq2
    simp (disch := first | omega | assumption | decide | (simp <;> omega) | fail) [facts, h2I, hr2, g0, g1, hmI, hnI, zeroZ, zeroN]
    exact ⟨_, Heap.le_refl _, le_updN hl2 hb2 _⟩
  have hnI : ¬ (n : Int) < 6 + (L : Int) := by omega
  by_cases h36 : L < 36
  case pos =>
    have h36I : (L : Int) < 36 := by omega
    rw [if_pos (.inr (.inr h36))] at hq2
    cases hq2
    simp (disch := first | omega | assumption | decide | (simp <;> omega) | fail) [facts, h2I, hr2, g0, g1, hmI, hnI, h36I, zeroZ, zeroN]
    exact ⟨_, Heap.le_refl _, le_updN hl2 hb2 _⟩
  have h36I : ¬ (L : Int) < 36 := by omega
  rw [if_neg (by omega)] at hq2
  obtain ⟨c', rfl⟩ : ∃ c', c = c' + 2 := ⟨c - 2, by omega⟩
  have hx := hs2.mid (c := c' + 2) (l := 2) (h := 2 + L) (by omega) (by omega) hc
  rw [show 2 + L - 2 = L by omega, if_neg (by omega)] at hx
  have hbl := bodyOf_len (b := bs) (n := L) (by omega)
  have hX0 : SlA H2 (some ⟨ab, ao + 2, none⟩) L 1 ((bodyOf bs L).map u8V) := by
    rw [Option.map_some, Addr.add_mid] at hx
    exact hx
  clear hx
  generalize hX : bodyOf bs L = X at *
  have hcI : (2 : Int) + (L : Int) ≤ ((c' + 2 : Nat) : Int) := by omega
  have e2L : ((2 : Int) + (L : Int)).toNat = 2 + L := by omega
  have e2L' : 2 + L - 2 = L := by omega
  have ec2 : ¬ c' = 0 := by omega
  obtain ⟨q, hqq⟩ : ∃ q, X[35]? = some q := ⟨_, List.getElem?_eq_getElem (by omega)⟩
  have g35 : rd1U (H2 ab) (ao + 2 + 35) = some (.int .u8 q.toNat) := hX0.at hqq
  have hq35 : numN ((X.drop 35).take 1) = q.toNat := by
    have : (X.drop 35).take 1 = [q] := by
      obtain ⟨h1, h2⟩ := List.getElem?_eq_some_iff.1 hqq
      rw [List.drop_eq_getElem_cons h1, h2]; rfl
    rw [this, numN_one]
  rw [hq35] at hq2
  have hqb := q.toNat_lt
  by_cases hqL : q.toNat = L - 36
  case neg =>
    have hqI : ¬ (q.toNat : Int) = (L : Int) - 36 := by omega
    rw [if_pos (.inl hqL)] at hq2
    cases hq2
    simp (disch := first | omega | assumption | decide | (simp <;> omega) | fail) [facts, h2I, hr2, g0, g1, hmI, hnI, h36I, hcI, e2L, e2L', ec2, g35, hqI, zeroZ, zeroN]
    exact ⟨_, Heap.le_refl _, le_updN hl2 hb2 _⟩
  have hqI : (q.toNat : Int) = (L : Int) - 36 := by omega
  simp (disch := first | omega | assumption | decide | (simp <;> omega) | fail) [facts, h2I, hr2, g0, g1, hmI, hnI, h36I, hcI, e2L, e2L', ec2, g35, hqI]
  have hc40 : 40 ≤ c' := by omega
  have nc1 : ¬ c' = 1 := by omega
  have nc3 : ¬ c' = 3 := by omega
  have nc7 : ¬ c' = 7 := by omega
  have nc36 : ¬ c' = 36 := by omega
  have L36 : 36 ≤ L := by omega
  obtain ⟨x0, hx0⟩ : ∃ x, X[0]? = some x := ⟨_, List.getElem?_eq_getElem (by omega)⟩
  have gk : rd1U (H2 ab) (ao + 2) = some (.int .u8 x0.toNat) := hX0.at hx0
  have hrb := recOf_b X
  have ek : (x0.toNat : Int) = (recOf X).kind := by
    have : X.take 1 = [x0] := by
      obtain ⟨h1, h2⟩ := List.getElem?_eq_some_iff.1 hx0
      rw [← h2, List.take_one, List.head?_eq_getElem?, List.getElem?_eq_getElem h1]; rfl
    simp only [recOf, this, numN_one]
  have et : ((numN ((X.drop 1).take 2) : Nat) : Int) = (recOf X).t := rfl
  have es : ((numN ((X.drop 3).take 4) : Nat) : Int) = (recOf X).s := rfl
  have ea : ((numN ((X.drop 7).take 4) : Nat) : Int) = (recOf X).am := rfl
  have ep : mkS (X.drop 36) = (recOf X).pan := rfl
  have en : (recOf X).ns = nzAt (X.drop 11) := rfl
  have er : (recOf X).rs = nzAt (X.drop 19) := rfl
  have el : (recOf X).ls = nzAt (X.drop 27) := rfl
  have hps : (recOf X).pan.size = L - 36 := by rw [← ep, mkS_sz, List.length_drop, hbl]
  generalize hR : recOf X = R at *
  obtain ⟨⟨k1, k2⟩, ⟨t1, t2⟩, ⟨s1', s2'⟩, ⟨a1, a2⟩⟩ := hrb
  rw [ek] at gk
  have m1 := hX0.midL 1 2 (by omega)
  have m3 := hX0.midL 3 4 (by omega)
  have m7 := hX0.midL 7 4 (by omega)
  have m36 := hX0.tlL 36 (by omega)
  refine w_growL (by simp [facts]) 21 [51,52,53,54,55,56,57,58,59,60,61,62,63,64,65,66,67,68,69,70,7] [.eq (.slice (some ⟨ab, ao + 2, none⟩) L c'), .eq (.pointer (some ⟨ab, ao + 2, none⟩)), .eq (.int .u8 R.kind), .eq (.int .i64 R.kind), .eq (.slice (some ⟨ab, ao + 2, none⟩) L c'), .eq (.slice (some ⟨ab, ao + 2 + 1, none⟩) 2 (c' - 1)), .eq (.int .i64 R.t), .eq (.int .u16 R.t), .eq (.slice (some ⟨ab, ao + 2, none⟩) L c'), .eq (.slice (some ⟨ab, ao + 2 + 3, none⟩) 4 (c' - 3)), .eq (.int .i64 R.s), .eq (.int .u32 R.s), .eq (.agg #[.int .u16 R.t, .int .u32 R.s]), .eq (.slice (some ⟨ab, ao + 2, none⟩) L c'), .eq (.slice (some ⟨ab, ao + 2 + 7, none⟩) 4 (c' - 7)), .eq (.int .i64 R.am), .eq (.slice (some ⟨ab, ao + 2, none⟩) L c'), .eq (.slice (some ⟨ab, ao + 2 + 36, none⟩) (L - 36) (c' - 36)), .eq (.string R.pan), .eq (.agg #[.int .i64 R.kind, .int .u16 R.t, .int .u32 R.s, .string R.pan, .int .i64 R.am, .int .i64 0, .int .i64 0, .int .i64 0, .int .i64 0, .int .i64 0, .int .i64 0, .int .i64 0, .int .i64 0, .int .i64 0, .int .i64 0, .int .i64 0, .int .i64 0]), .new H2 [.int .i64 0, .int .u16 0, .int .u32 0, .string ByteArray.empty, .int .i64 0, .int .i64 0, .int .i64 0, .int .i64 0, .int .i64 0, .int .i64 0, .int .i64 0, .int .i64 0, .int .i64 0, .int .i64 0, .int .i64 0, .int .i64 0, .int .i64 0] (fun b => .pointer (some ⟨b, 0, none⟩))] (by decide +kernel) rfl ?_ ?_
  · simp only [List.take_succ_cons, List.take_zero, allL_cons, allL_nil]
    refine ⟨?_, ?_, ?_, ?_, ?_, ?_, ?_, ?_, ?_, ?_, ?_, ?_, ?_, ?_, ?_, ?_, ?_, ?_, ?_, ?_, ?_, trivial⟩
    all_goals (unfold stepL; intro f Hx hl ha; have gkx : rd1U (Hx ab) (ao + 2) = some (.int .u8 R.kind) := (by have := (hX0.le hl).at hx0; rw [u8V_def, ek] at this; exact this))
    all_goals try (simp (disch := first | omega | assumption | decide | (simp <;> omega) | fail) [facts, gkx, nc1, nc3, nc7, nc36, ec2]; done)
    · simp (disch := first | omega | assumption | decide | (simp <;> omega) | fail) [facts, ]
      refine (num_c _ 2 _ _ Hx (m1.le hl) (by decide)).mono ?_
      rintro v H' ⟨rfl, rfl⟩
      rw [et]
      simp (disch := first | omega | assumption | decide | (simp <;> omega) | fail) [facts, ]
    · simp (disch := first | omega | assumption | decide | (simp <;> omega) | fail) [facts, ]
      refine (num_c _ 4 _ _ Hx (m3.le hl) (by decide)).mono ?_
      rintro v H' ⟨rfl, rfl⟩
      rw [es]
      simp (disch := first | omega | assumption | decide | (simp <;> omega) | fail) [facts, ]
    · simp (disch := first | omega | assumption | decide | (simp <;> omega) | fail) [facts, ]
      refine (num_c _ 4 _ _ Hx (m7.le hl) (by decide)).mono ?_
      rintro v H' ⟨rfl, rfl⟩
      rw [ea]
      simp (disch := first | omega | assumption | decide | (simp <;> omega) | fail) [facts, ]
    · simp (disch := first | omega | assumption | decide | (simp <;> omega) | fail) [facts, ]
      rw [conv_bytes (by simp [facts]) (m36.le hl), ep]
      simp (disch := first | omega | assumption | decide | (simp <;> omega) | fail) [facts, ]
    · simp (disch := first | omega | assumption | decide | (simp <;> omega) | fail) [facts, ]
      refine fresh_intro fun b hb => ?_
      simp (disch := first | omega | assumption | decide | (simp <;> omega) | fail) [facts, ]
      exact ⟨le_upd _ hb, le_of_none hl hb⟩
  intro f H3 hl3 hkn
  replace hkn : (∃ b, f 7 = .pointer (some ⟨b, 0, none⟩) ∧ H2 b = none ∧ H3 b = some (.row true 0 [.int .i64 0, .int .u16 0, .int .u32 0, .string ByteArray.empty, .int .i64 0, .int .i64 0, .int .i64 0, .int .i64 0, .int .i64 0, .int .i64 0, .int .i64 0, .int .i64 0, .int .i64 0, .int .i64 0, .int .i64 0, .int .i64 0, .int .i64 0] 0)) := by simpa using hkn
  obtain ⟨b7, f7, hb7, hr7⟩ := hkn
  simp (disch := first | omega | assumption | decide | (simp <;> omega) | fail) [facts, f7, hr7]
  refine w_loop (rdInv H3 ab ao n c' b2 L b7 R X) (fun st => 4 - (intOf (st.env 8)).toNat) ?_ ?_
  · exact ⟨0, by decide, by simp, by simp, by simp, by simp, by simp [f7], by simp, Keep.upd _, upd_same _ _ _⟩
  have hb27 : b2 ≠ b7 := ne_of_fresh hb7 hr2
  have hab7 : ab ≠ b7 := fun e => by
    rw [e, hb7] at gk
    cases gk
  have dat : ∀ G, Keep b7 H3 G → Heap.le H2 G := fun G h i x hx => h i x (fun e' => by subst e'; rw [hb7] at hx; cases hx) (hl3 _ _ hx)
  rintro ⟨env, G⟩ ⟨k, hk, e0, e2, e5, e6, e7, e8, hkp, r7⟩
  simp only at e0 e2 e5 e6 e7 e8 hkp r7
  have hlG := dat G hkp
  by_cases hlt : k < 4
  · have hltI : (k : Int) < 4 := by omega
    have n1 := hX0.midL (11 + 2 * k) 2 (by omega)
    have n2 := hX0.midL (19 + 2 * k) 2 (by omega)
    have n3 := hX0.midL (27 + 2 * k) 2 (by omega)
    have f1 : ((11 : Int) + 2 * (k : Int)).toNat = 11 + 2 * k := by omega
    have f2 : ((13 : Int) + 2 * (k : Int)).toNat = 13 + 2 * k := by omega
    have f3 : ((19 : Int) + 2 * (k : Int)).toNat = 19 + 2 * k := by omega
    have f4 : ((21 : Int) + 2 * (k : Int)).toNat = 21 + 2 * k := by omega
    have f5 : ((27 : Int) + 2 * (k : Int)).toNat = 27 + 2 * k := by omega
    have f6 : ((29 : Int) + 2 * (k : Int)).toNat = 29 + 2 * k := by omega
    have h1 : 13 + 2 * k - (11 + 2 * k) = 2 := by omega
    have h2' : 21 + 2 * k - (19 + 2 * k) = 2 := by omega
    have h3 : 29 + 2 * k - (27 + 2 * k) = 2 := by omega
    have q1 : ¬ c' = 11 + 2 * k := by omega
    have q2 : ¬ c' = 19 + 2 * k := by omega
    have q3 : ¬ c' = 27 + 2 * k := by omega
    have v1 := numN_lt (bs := (X.drop (11 + 2 * k)).take 2) (m := 2) (by rw [List.length_take]; omega) (by decide)
    have v2 := numN_lt (bs := (X.drop (19 + 2 * k)).take 2) (m := 2) (by rw [List.length_take]; omega) (by decide)
    have v3 := numN_lt (bs := (X.drop (27 + 2 * k)).take 2) (m := 2) (by rw [List.length_take]; omega) (by decide)
    have hlen := recL_len R X k
    simp (disch := first | omega | assumption | decide | (simp <;> omega) | fail) [facts, e0, e2, e5, e6, e7, e8, hltI]
    refine w_plan (by simp [facts]) (opsP [0,1,2,3,4,5,6,7,8,9,10,12,13,14,15,16,17,18,19,21,22,23,24,25,26,27,28,30,33,36,11,31,20,29,32,34,35,37,38] .done) (by decide +kernel) ?_
    simp (disch := first | omega | assumption | decide | (simp <;> omega) | fail) [facts, e6, e7, e8, f1, f2, f3, f4, f5, f6, h1, h2', h3, q1, q2, q3]
    refine (num_c _ 2 _ _ G (n1.le hlG) (by decide)).mono ?_
    rintro v G' ⟨rfl, rfl⟩
    simp (disch := first | omega | assumption | decide | (simp <;> omega) | fail) [facts, e6, e7, e8]
    refine (num_c _ 2 _ _ G' (n2.le hlG) (by decide)).mono ?_
    rintro v G ⟨rfl, rfl⟩
    simp (disch := first | omega | assumption | decide | (simp <;> omega) | fail) [facts, e6, e7, e8]
    refine (num_c _ 2 _ _ G (n3.le hlG) (by decide)).mono ?_
    rintro v G' ⟨rfl, rfl⟩
    have hset := recL_set R X k hlt
    generalize numN ((X.drop (11 + 2 * k)).take 2) = w1 at *
    generalize numN ((X.drop (19 + 2 * k)).take 2) = w2 at *
    generalize numN ((X.drop (27 + 2 * k)).take 2) = w3 at *
    simp (disch := first | omega | assumption | decide | (simp <;> omega) | fail) [facts, e6, e7, e8, r7, upd_upd, hset]
    refine ⟨_, Heap.le_refl _, ⟨k + 1, by omega, by simp [e0], by simp [e2], by simp [e5], by simp [e6], by simp [e7], by simp, hkp.trans (Keep.upd _), upd_same _ _ _⟩, by simp [intOf, e8]; omega⟩
  have hk4 : k = 4 := by omega
  subst hk4
  rw [recL_all R X hR] at r7
  have r2 := hkp _ _ hb27 (hl3 _ _ hr2)
  simp (disch := first | omega | assumption | decide | (simp <;> omega) | fail) [facts, e0, e2, e5, e6, e7, e8, r7]
  refine (rightR_c R G (by omega)).mono ?_
  rintro v G2 ⟨rfl, hlG2⟩
  have r2' := hlG2 _ _ r2
  have r7' := hlG2 _ _ r7
  have hl02 := Heap.le_trans hl2 (Heap.le_trans hlG hlG2)
  cases hRr : R.right with
  | false =>
    rw [if_pos (.inr hRr)] at hq2
    cases hq2
    simp (disch := first | omega | assumption | decide | (simp <;> omega) | fail) [facts, e2, r2', zeroZ, zeroN]
    exact ⟨_, Heap.le_refl _, le_updN hl02 hb2 _⟩
  | true =>
  rw [if_neg (by simp [hRr, hqL])] at hq2
  have hsS := (hs2.midL (2 + L) 4 (by omega))
  have f1 : ((2 : Int) + (L : Int)).toNat = 2 + L := by omega
  have f2 : ((6 : Int) + (L : Int)).toNat = 6 + L := by omega
  have f3 : 6 + L - (2 + L) = 4 := by omega
  have f4 : ¬ c' + 2 = 2 + L := by omega
  have f5 : (6 : Int) + (L : Int) ≤ ((c' + 2 : Nat) : Int) := by omega
  have hN := numN_lt (bs := (bs.drop (2 + L)).take 4) (m := 4) (by rw [List.length_take]; omega) (by decide)
  have hC := crcN_lt X
  simp (disch := first | omega | assumption | decide | (simp <;> omega) | fail) [facts, e0, e5, e6, f1, f2, f3, f4, f5]
  refine (num_c _ 4 _ _ G2 (hsS.le (Heap.le_trans hlG hlG2)) (by decide)).mono ?_
  rintro v G3 ⟨rfl, rfl⟩
  generalize hNq : numN ((bs.drop (2 + L)).take 4) = N at *
  simp (disch := first | omega | assumption | decide | (simp <;> omega) | fail) [facts, e6]
  refine (crc_c _ L _ X G3 (hX0.le (Heap.le_trans hlG hlG2)) (by omega)).mono ?_
  rintro v G4 ⟨rfl, rfl⟩
  by_cases hsum : N = crcN X
  · have hsI : (N : Int) = (crcN X : Int) := by omega
    rw [if_neg (by simp [hsum])] at hq2
    cases hq2
    simp (disch := first | omega | assumption | decide | (simp <;> omega) | fail) [facts, hsI, e2, e5, e7, r7', r2']
    exact ⟨_, Heap.le_refl _, le_updN hl02 hb2 _⟩
  · have hsI : ¬ (N : Int) = (crcN X : Int) := by omega
    rw [if_pos hsum] at hq2
    cases hq2
    simp (disch := first | omega | assumption | decide | (simp <;> omega) | fail) [facts, hsI, e2, e5, e7, r7', r2', zeroZ, zeroN]
    exact ⟨_, Heap.le_refl _, le_updN hl02 hb2 _⟩
end Go.Proofs.Ytaphlamkpkldgaa.GL
