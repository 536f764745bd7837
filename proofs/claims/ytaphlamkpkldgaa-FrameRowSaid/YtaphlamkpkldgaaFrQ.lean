/- Layer 4: FrameReads. -/
import Derived.Test.YtaphlamkpkldgaaFrP
namespace Go.Proofs.Ytaphlamkpkldgaa.GL
open Go Go.RowKit
set_option maxRecDepth 10000
set_option pp.deepTerms.threshold 8
set_option pp.maxSteps 3000
set_option linter.unusedSimpArgs false
set_option linter.unusedVariables false

/-- Bytes in a block of the call's own. -/
structure BRow (H : Heap) (q o : Nat) (bs : List UInt8) : Prop where
  is : ∃ tail room, H q = some (.row true o (bs.map u8V ++ tail) room)
theorem BRow.sl {H : Heap} {q o : Nat} {bs : List UInt8} (h : BRow H q o bs) : SlA H (some ⟨q, o, none⟩) bs.length 1 (bs.map u8V) := by
  obtain ⟨tail, room, e⟩ := h.is
  exact SlA.row e (Nat.le_refl _) (by simp) (by simp) (by rw [Nat.sub_self, List.drop_zero, Nat.mul_one, ← List.length_map (f := u8V), List.take_left])
theorem BRow.le {H H' : Heap} {q o : Nat} {bs : List UInt8} (h : BRow H q o bs) (hl : Heap.le H H') : BRow H' q o bs := by
  obtain ⟨tail, room, e⟩ := h.is
  exact ⟨tail, room, hl _ _ e⟩
/-- A byte stored. -/
theorem BRow.store {H : Heap} {q o i p : Nat} {bs : List UInt8} {K : Kont} {v : Int} (h : BRow H q o bs) (d : UInt8) (hp : p = o + i) (hi : i < bs.length) (hv : v = (d.toNat : Int))
    (hK : ∀ H', BRow H' q o (bs.set i d) → (∀ b x, b ≠ q → H b = some x → H' b = some x) → K undef H') : storeU (some 1) (H q) q p (.int .u8 v) H K := by
  obtain ⟨tail, room, e⟩ := h.is
  subst hp
  rw [e, storeU_one (by omega) (by simp; omega) rfl]
  refine hK _ ⟨tail, room, ?_⟩ fun b x hb hx => by rw [upd_ne _ _ hb]; exact hx
  rw [upd_same, show o + i - o = i by omega, List.set_append_left _ _ (by simpa using hi), List.map_set]
  simp [hv]
theorem LB.row {R H : Heap} {v : Value} {bs : List UInt8} (h : LB R v bs) (hl : Heap.le R H) (h0 : 0 < bs.length) : ∃ q o c, v = .slice (some ⟨q, o, none⟩) bs.length c ∧ BRow H q o bs ∧ bs.length ≤ c ∧ (∃ x, R q = some x) := by
  rcases h with ⟨_, e, _⟩ | ⟨b, o, cap, tail, room, rfl, hr, hlen, hc, hf⟩
  · omega
  · exact ⟨b, o, cap, rfl, ⟨tail, room, hl _ _ hr⟩, hc, _, hr⟩
def xorB (c : UInt8) (x : Nat) : UInt8 := UInt8.ofNat (c.toNat ^^^ x)
theorem xorB_nat (c : UInt8) (x : Nat) (hx : x < 256) : xorK .u8 (c.toNat : Int) (x : Int) = ((xorB c x).toNat : Int) := by
  have hc := c.toNat_lt
  rw [xorK_nat .u8 c.toNat x (by simpa [IntKind.bits] using hc) (by simpa [IntKind.bits] using hx) rfl]
  unfold xorB
  have : c.toNat ^^^ x < 2 ^ 8 := Nat.xor_lt_two_pow hc hx
  rw [UInt8.toNat_ofNat', Nat.mod_eq_of_lt this]
theorem wrap_byte (z : Int) : ∃ c : UInt8, IntKind.wrap .u8 z = (c.toNat : Int) := by
  refine ⟨UInt8.ofNat (z % 256).toNat, ?_⟩
  rw [UInt8.toNat_ofNat']
  simp only [IntKind.wrap, IntKind.bits, IntKind.signed, Bool.false_and]
  simp
  omega
def frInv (F : Heap) (b108 : Nat) (st : St) : Prop :=
  ∃ k : Nat, k ≤ 3 ∧ st.env 108 = .slice (some ⟨b108, 0, none⟩) 3 3 ∧ st.env 109 = .int .i64 3 ∧ st.env 110 = .int .i64 k ∧ Heap.le F st.heap
set_option maxHeartbeats 2000000 in
theorem frameReads_c (a : Option Addr) (n c : Nat) (raw : List UInt8) (kind k stan amount at' x : Nat) (cut again : Bool) (H : Heap) (h : SlA H a n 1 (raw.map u8V)) (hc : n ≤ c) (h1 : kind < 256) (h2 : k < 256) (h3 : stan < 256) (h4 : amount < 65536) (h5 : at' < 256) (h6 : x < 256) :
    ECalls Try.prog 4 #[.slice a n c, .int .u8 kind, .int .u8 k, .int .u8 stan, .int .u16 amount, .int .u8 at', .int .u8 x, .bool cut, .bool again] H fun v _ => v = .bool true := by
  refine ecalls_of_ewp (args := [_, _, _, _, _, _, _, _, _]) Try.func4 rfl rfl rfl (by simp [Try.ntmps4]) (by kernel_rfl) ?_
  have hl : raw.length = n := by simpa using h.len
  simp (disch := first | omega | assumption | decide | (simp <;> omega) | fail) [facts, ]
  refine (known_c H).mono ?_
  rintro v H2 ⟨rfl, hl2⟩
  by_cases hn : n ≤ 200
  case neg =>
    have hnI : (200 : Int) < (n : Int) := by omega
    simp (disch := first | omega | assumption | decide | (simp <;> omega) | fail) [facts, hnI]
    exact ⟨_, Heap.le_refl _⟩
  have hnI : ¬ (200 : Int) < (n : Int) := by omega
  simp (disch := first | omega | assumption | decide | (simp <;> omega) | fail) [facts, hnI]
  obtain ⟨s, hs⟩ : ∃ s, s = recS kind k stan amount := ⟨_, rfl⟩
  have hsr : s.right = true := by rw [hs]; exact (recS_right kind k stan amount h2 h3).1
  have hsw : s.wf := by rw [hs]; exact (recS_right kind k stan amount h2 h3).2
  have hsp := pan_le hsr
  have hE : putE s = 0 := by simp [putE, hsr]
  have hX : putX s = putB s := by simp [putX, hsr]
  have hlen := putB_len s
  refine (rec_c kind k stan amount h1 h2 h3 h4 H2 s hs).mono ?_
  rintro v H3 ⟨rfl, hl3⟩
  simp (disch := first | omega | assumption | decide | (simp <;> omega) | fail) [facts, ]
  refine (rputA_c s H3 hsw (by omega)).mono ?_
  rintro v H4 ⟨sv, rfl, R, ow, hlb⟩
  rw [hE]
  rw [hX] at hlb
  obtain ⟨q, o, cb, rfl, hb, hcb, hRq⟩ := hlb.row ow.le (by omega)
  have hqn : H3 q = none := by
    cases hq : H3 q with
    | none => rfl
    | some z =>
      obtain ⟨w, hw⟩ := hRq
      rw [(ow.mv q z rfl hq).1] at hw; cases hw
  obtain ⟨i, hi⟩ : ∃ i, i = at' % (putB s).length := ⟨_, rfl⟩
  have hil : i < (putB s).length := by rw [hi]; exact Nat.mod_lt _ (by omega)
  have hiI : (at' : Int) % ((putB s).length : Int) = (i : Int) := by rw [hi]; omega
  obtain ⟨d, hd⟩ : ∃ d, (putB s)[i]? = some d := ⟨_, List.getElem?_eq_getElem hil⟩
  have gd : rd1U (H4 q) (o + i) = some (.int .u8 d.toNat) := hb.sl.at hd
  have hx := xorB_nat d x h6
  simp (disch := first | omega | assumption | decide | (simp <;> omega) | fail) [facts, hiI, gd, hx]
  refine hb.store (xorB d x) rfl hil rfl ?_
  intro H5 hb5 hk5
  have hl5 : Heap.le H3 H5 := fun b y hy => hk5 b y (fun e => by rw [e, hqn] at hy; cases hy) (ow.all b y hy)
  obtain ⟨B, hB⟩ : ∃ B, B = (putB s).set i (xorB d x) := ⟨_, rfl⟩
  have hBl : B.length = (putB s).length := by rw [hB]; simp
  rw [← hB] at hb5
  rw [← hBl] at hil hlen hcb ⊢
  clear gd hd hx hB hiI hi hb hk5
  simp (disch := first | omega | assumption | decide | (simp <;> omega) | fail) [facts, ]
  obtain ⟨I, hI⟩ : ∃ I : St → Prop, I = (fun st => ∃ B' : List UInt8, B'.length = B.length ∧ st.env 19 = .slice (some ⟨q, o, none⟩) B.length cb ∧ BRow st.heap q o B' ∧ Heap.le H3 st.heap ∧ st.env 0 = .slice a n c ∧ st.env 7 = .bool cut ∧ st.env 21 = .int .i64 i) := ⟨_, rfl⟩
  refine gd_cut I ?_ ?_
  · cases again with
    | false =>
      simp (disch := first | omega | assumption | decide | (simp <;> omega) | fail) [facts, ]
      subst hI
      exact ⟨B, rfl, by simp, hb5, hl5, by simp, by simp, by simp⟩
    | true =>
      have hL6 : (6 : Int) < (B.length : Int) := by omega
      have f1 : ((B.length : Int) - 4).toNat = B.length - 4 := by omega
      have f2 : B.length - 4 - 2 = B.length - 6 := by omega
      have f3 : ¬ cb = 2 := by omega
      have f4 : (B.length : Int) - 4 ≤ (cb : Int) := by omega
      have f5 : (2 : Int) ≤ (B.length : Int) - 4 := by omega
      simp (disch := first | omega | assumption | decide | (simp <;> omega) | fail) [facts, hL6, f1, f2, f3, f4, f5]
      refine (crc_c _ _ _ _ H5 (hb5.sl.midL 2 (B.length - 6) (by omega)) (by omega)).mono ?_
      rintro v H5' ⟨rfl, rfl⟩
      generalize crcN ((B.drop 2).take (B.length - 6)) = S
      obtain ⟨d1, hd1⟩ := wrap_byte (shrK .u32 (S : Int) 24)
      obtain ⟨d2, hd2⟩ := wrap_byte (shrK .u32 (S : Int) 16)
      obtain ⟨d3, hd3⟩ := wrap_byte (shrK .u32 (S : Int) 8)
      obtain ⟨d4, hd4⟩ := wrap_byte (S : Int)
      have i3 : ((B.length : Int) - 3).toNat = B.length - 3 := by omega
      have i2 : ((B.length : Int) - 2).toNat = B.length - 2 := by omega
      have i1 : ((B.length : Int) - 1).toNat = B.length - 1 := by omega
      simp (disch := first | omega | assumption | decide | (simp <;> omega) | fail) [facts, hd1, hd2, hd3, hd4, f1, i3, i2, i1]
      refine hb5.store d1 rfl (by omega) rfl ?_
      intro H6 hb6 hk6
      simp (disch := first | omega | assumption | decide | (simp <;> omega) | fail) [facts, ]
      refine hb6.store d2 rfl (by simp; omega) rfl ?_
      intro H7 hb7 hk7
      simp (disch := first | omega | assumption | decide | (simp <;> omega) | fail) [facts, ]
      refine hb7.store d3 rfl (by simp; omega) rfl ?_
      intro H8 hb8 hk8
      simp (disch := first | omega | assumption | decide | (simp <;> omega) | fail) [facts, ]
      refine hb8.store d4 rfl (by simp; omega) rfl ?_
      intro H9 hb9 hk9
      have hl9 : Heap.le H3 H9 := fun b y hy => by
        have hbq : b ≠ q := fun e => by rw [e, hqn] at hy; cases hy
        exact hk9 b y hbq (hk8 b y hbq (hk7 b y hbq (hk6 b y hbq (hl5 b y hy))))
      simp (disch := first | omega | assumption | decide | (simp <;> omega) | fail) [facts, ]
      subst hI
      exact ⟨_, by simp, by simp, hb9, hl9, by simp, by simp, by simp⟩
  · rintro ⟨env, G⟩ hS
    subst hI
    obtain ⟨B', hB', e19, hbr, hlG, e0, e7, e21⟩ := hS
    simp only at e19 hbr hlG e0 e7 e21
    clear hb5 hl5 H5
    simp (disch := first | omega | assumption | decide | (simp <;> omega) | fail) [facts, e0, e7, e19, e21]
    obtain ⟨I, hI⟩ : ∃ I : St → Prop, I = (fun st => ∃ (m : Nat) (B2 : List UInt8), st.env 19 = .slice (some ⟨q, o, none⟩) m cb ∧ SlA st.heap (some ⟨q, o, none⟩) m 1 (B2.map u8V) ∧ m ≤ cb ∧ m ≤ 1000 ∧ Heap.le H3 st.heap ∧ st.env 0 = .slice a n c) := ⟨_, rfl⟩
    refine cond_cut3 I ?_ ?_
    · cases cut with
      | false =>
        simp (disch := first | omega | assumption | decide | (simp <;> omega) | fail) [facts, ]
        subst hI
        have := hbr.sl
        rw [hB'] at this
        exact ⟨B.length, B', by simp [e19], this, hcb, by omega, hlG, by simp [e0]⟩
      | true =>
        have hic : (i : Int) ≤ (cb : Int) := by omega
        simp (disch := first | omega | assumption | decide | (simp <;> omega) | fail) [facts, e19, e21, hic]
        subst hI
        exact ⟨i, B'.take i, by simp, hbr.sl.hd (by omega), by omega, by omega, hlG, by simp [e0]⟩
    clear e0 e7 e19 e21 hbr hlG
    rintro ⟨env2, G2⟩ hS
    subst hI
    obtain ⟨m, B2, e19, hsB, hmc, hm1, hlG, e0⟩ := hS
    simp only at e19 hsB hlG e0
    have hraw := h.le (Heap.le_trans hl2 (Heap.le_trans hl3 hlG))
    simp (disch := first | omega | assumption | decide | (simp <;> omega) | fail) [facts, e0, e19]
    refine fresh_intro fun b5 hb5 => ?_
    have hl5 := le_upd (.row true 0 [.int .u8 165] 0) hb5
    have r5 := upd_same G2 b5 (.row true 0 [.int .u8 165] 0)
    simp (disch := first | omega | assumption | decide | (simp <;> omega) | fail) [facts, e0]
    refine app_b (F := G2) (R0 := fun _ => none) (bs := [165]) (ys := raw) (LB.one (bs := [165]) (cs := [.int .u8 165]) rfl) (Own.one hl5 hb5 r5) ⟨_, _, _, rfl, hraw.le hl5⟩ (by simp; omega) ?_
    intro v6 G6 R6 ow6 hl6 _
    obtain ⟨a6, c6, rfl, hs6, hc6⟩ := LstR.sl hl6 ow6.le
    have hl6l : ([165] ++ raw).length = n + 1 := by simp; omega
    rw [hl6l] at hs6 hc6
    simp (disch := first | omega | assumption | decide | (simp <;> omega) | fail) [facts, hl6l]
    refine fresh_intro fun b8 hb8 => ?_
    have hlA := ow6.all
    have hl8 := le_upd (.row true 0 [.slice a n c, .slice (some ⟨q, o, none⟩) m cb, .slice a6 (n + 1) c6] 0) hb8
    have r8 := upd_same G6 b8 (.row true 0 [.slice a n c, .slice (some ⟨q, o, none⟩) m cb, .slice a6 (n + 1) c6] 0)
    simp (disch := first | omega | assumption | decide | (simp <;> omega) | fail) [facts, hl6l, hl]
    generalize upd G6 b8 (.row true 0 [.slice a n c, .slice (some ⟨q, o, none⟩) m cb, .slice a6 (n + 1) c6] 0) = F at *
    have hy : ∀ y ∈ ([⟨a, n, c, raw⟩, ⟨some ⟨q, o, none⟩, m, cb, B2⟩, ⟨a6, n + 1, c6, [165] ++ raw⟩] : List SZ), SlA F y.a y.n 1 (y.bs.map u8V) ∧ y.n ≤ y.c ∧ y.n ≤ 1000 := fun y hy => by
      simp only [List.mem_cons, List.not_mem_nil, or_false] at hy
      rcases hy with rfl | rfl | rfl
      · exact ⟨hraw.le (Heap.le_trans hlA hl8), hc, by simp only; omega⟩
      · exact ⟨hsB.le (Heap.le_trans hlA hl8), hmc, hm1⟩
      · exact ⟨hs6.le hl8, hc6, by simp only; omega⟩
    have hrow : SlA F (some ⟨b8, 0, none⟩) 3 1 (rowsC SZ.cells [⟨a, n, c, raw⟩, ⟨some ⟨q, o, none⟩, m, cb, B2⟩, ⟨a6, n + 1, c6, [165] ++ raw⟩]) := SlA.row r8 (Nat.le_refl _) rfl (by simp) rfl
    clear r8
    generalize hys : ([⟨a, n, c, raw⟩, ⟨some ⟨q, o, none⟩, m, cb, B2⟩, ⟨a6, n + 1, c6, [165] ++ raw⟩] : List SZ) = ys at *
    have hyl : ys.length = 3 := by rw [← hys]; rfl
    refine w_loop (frInv F b8) (fun st => 3 - (intOf (st.env 110)).toNat) ?_ ?_
    · exact ⟨0, by decide, by simp, by simp, by simp, Heap.le_refl _⟩
    clear e0 e19
    rintro ⟨env, G⟩ ⟨j, hj, e108, e109, e110, hle⟩
    simp only at e108 e109 e110 hle
    by_cases hlt : j < 3
    case neg =>
      have hj3 : j = 3 := by omega
      subst hj3
      simp (disch := first | omega | assumption | decide | (simp <;> omega) | fail) [facts, e108, e109, e110]
      exact ⟨_, Heap.le_refl _⟩
    have hltI : (j : Int) < 3 := by omega
    obtain ⟨y, hy0⟩ : ∃ y, ys[j]? = some y := ⟨_, List.getElem?_eq_getElem (by omega)⟩
    obtain ⟨hy1, hy2, hy3⟩ := hy y (List.mem_of_getElem? hy0)
    have ry : rd1U (G b8) (0 + j) = some (.slice y.a y.n y.c) := by
      have := (hrow.le hle).el1 s1 hy0 (j := 0) (by decide)
      simpa [SZ.cells] using this
    rw [Nat.zero_add] at ry
    obtain ⟨⟨rr, kk, ee⟩, hq⟩ : ∃ z, z = readZ y.bs := ⟨_, rfl⟩
    simp (disch := first | omega | assumption | decide | (simp <;> omega) | fail) [facts, e108, e109, e110, hltI, ry]
    refine (fread_c y.a y.n y.c y.bs G (hy1.le hle) hy2 (by omega) rr kk ee hq.symm).mono ?_
    rintro v G3 ⟨rfl, hlG3⟩
    simp (disch := first | omega | assumption | decide | (simp <;> omega) | fail) [facts, ]
    refine fresh_intro fun b26 hb26 => ?_
    simp (disch := first | omega | assumption | decide | (simp <;> omega) | fail) [facts, upd_upd]
    have r26 := upd_same G3 b26 (.row true 0 [.int .i64 rr.kind, .int .u16 rr.t, .int .u32 rr.s, .string rr.pan, .int .i64 rr.am, .int .i64 rr.ns.a, .int .i64 rr.ns.b, .int .i64 rr.ns.c, .int .i64 rr.ns.d, .int .i64 rr.rs.a, .int .i64 rr.rs.b, .int .i64 rr.rs.c, .int .i64 rr.rs.d, .int .i64 rr.ls.a, .int .i64 rr.ls.b, .int .i64 rr.ls.c, .int .i64 rr.ls.d] 0)
    have hl26 := le_upd (.row true 0 [.int .i64 rr.kind, .int .u16 rr.t, .int .u32 rr.s, .string rr.pan, .int .i64 rr.am, .int .i64 rr.ns.a, .int .i64 rr.ns.b, .int .i64 rr.ns.c, .int .i64 rr.ns.d, .int .i64 rr.rs.a, .int .i64 rr.rs.b, .int .i64 rr.rs.c, .int .i64 rr.rs.d, .int .i64 rr.ls.a, .int .i64 rr.ls.b, .int .i64 rr.ls.c, .int .i64 rr.ls.d] 0) hb26
    generalize upd G3 b26 (.row true 0 [.int .i64 rr.kind, .int .u16 rr.t, .int .u32 rr.s, .string rr.pan, .int .i64 rr.am, .int .i64 rr.ns.a, .int .i64 rr.ns.b, .int .i64 rr.ns.c, .int .i64 rr.ns.d, .int .i64 rr.rs.a, .int .i64 rr.rs.b, .int .i64 rr.rs.c, .int .i64 rr.rs.d, .int .i64 rr.ls.a, .int .i64 rr.ls.b, .int .i64 rr.ls.c, .int .i64 rr.ls.d] 0) = G4 at *
    refine (rread_c y.a y.n y.c y.bs G4 (hy1.le (Heap.le_trans hle (Heap.le_trans hlG3 hl26))) hy2 (by omega) rr kk ee hq.symm).mono ?_
    rintro v G5 ⟨rfl, hlG5⟩
    have r26b := hlG5 _ _ r26
    simp (disch := first | omega | assumption | decide | (simp <;> omega) | fail) [facts, ]
    refine fresh_intro fun b29 hb29 => ?_
    simp (disch := first | omega | assumption | decide | (simp <;> omega) | fail) [facts, upd_upd]
    have r29 := upd_same G5 b29 (.row true 0 [.int .i64 rr.kind, .int .u16 rr.t, .int .u32 rr.s, .string rr.pan, .int .i64 rr.am, .int .i64 rr.ns.a, .int .i64 rr.ns.b, .int .i64 rr.ns.c, .int .i64 rr.ns.d, .int .i64 rr.rs.a, .int .i64 rr.rs.b, .int .i64 rr.rs.c, .int .i64 rr.rs.d, .int .i64 rr.ls.a, .int .i64 rr.ls.b, .int .i64 rr.ls.c, .int .i64 rr.ls.d] 0)
    have hl29 := le_upd (.row true 0 [.int .i64 rr.kind, .int .u16 rr.t, .int .u32 rr.s, .string rr.pan, .int .i64 rr.am, .int .i64 rr.ns.a, .int .i64 rr.ns.b, .int .i64 rr.ns.c, .int .i64 rr.ns.d, .int .i64 rr.rs.a, .int .i64 rr.rs.b, .int .i64 rr.rs.c, .int .i64 rr.rs.d, .int .i64 rr.ls.a, .int .i64 rr.ls.b, .int .i64 rr.ls.c, .int .i64 rr.ls.d] 0) hb29
    have r26c := hl29 _ _ r26b
    generalize upd G5 b29 (.row true 0 [.int .i64 rr.kind, .int .u16 rr.t, .int .u32 rr.s, .string rr.pan, .int .i64 rr.am, .int .i64 rr.ns.a, .int .i64 rr.ns.b, .int .i64 rr.ns.c, .int .i64 rr.ns.d, .int .i64 rr.rs.a, .int .i64 rr.rs.b, .int .i64 rr.rs.c, .int .i64 rr.rs.d, .int .i64 rr.ls.a, .int .i64 rr.ls.b, .int .i64 rr.ls.c, .int .i64 rr.ls.d] 0) = G6' at *
    simp (disch := first | omega | assumption | decide | (simp <;> omega) | fail) [facts, r26c, r29, e110]
    exact ⟨_, Heap.le_refl _, ⟨j + 1, by omega, by simp [e108], by simp [e109], by simp, Heap.le_trans hle (Heap.le_trans hlG3 (Heap.le_trans hl26 (Heap.le_trans hlG5 hl29)))⟩, by simp [intOf, e110]; omega⟩
end Go.Proofs.Ytaphlamkpkldgaa.GL
