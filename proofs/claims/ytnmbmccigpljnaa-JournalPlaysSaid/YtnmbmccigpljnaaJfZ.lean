/- Layer 4: the document's Put.; Layer 4: reading numbers of bytes; a reader.; Layer 4: a body read.; Layer 4: Read.; Layer 4: the document's Read.; Layer 4: the statements' records.; Layer 4: what is written is read. -/
import Derived.Test.YtnmbmccigpljnaaJfY
namespace Go.Proofs.Ytnmbmccigpljnaa.GL
open Go Go.RowKit
set_option maxRecDepth 10000
set_option pp.deepTerms.threshold 8
set_option pp.maxSteps 3000
set_option linter.unusedSimpArgs false
set_option linter.unusedVariables false

/-- A list of bytes in an object's memory. -/
def LB (R : Heap) (v : Value) (bs : List UInt8) : Prop := LstR R v 1 bs.length (bs.map u8V)
theorem one_bytes (bs : List UInt8) : (bs.map u8V).all (·.oneCell') = true := List.all_eq_true.2 fun v hv => by
  obtain ⟨c', _, rfl⟩ := List.mem_map.1 hv
  rfl
theorem LB.sv {R H : Heap} {v : Value} {bs : List UInt8} (h : LB R v bs) (hl : Heap.le R H) : SVa H v bs := by
  obtain ⟨a, c, e, hs, _⟩ := LstR.sl h hl
  exact ⟨a, _, c, e, hs⟩
/-- Bytes appended. -/
theorem app_b {F R0 G R : Heap} {K : Kont} {v x : Value} {bs ys : List UInt8} (h : LB R v bs) (ow : Own F R0 G R) (hx : SVa G x ys) (hb : bs.length + ys.length ≤ 100000000)
    (hK : ∀ v' H' R', Own F R0 H' R' → LB R' v' (bs ++ ys) → (∀ i o, R i = some o → blkV v ≠ some i → R' i = some o ∧ blkV v' ≠ some i) → K v' H') : eApp Try.prog 54 54 v x G K := by
  obtain ⟨a, n, c, rfl, hs⟩ := hx
  have hn : ys.length = n := by simpa using hs.len
  refine LstR.app (H0 := F) (B0 := R0) (e := 5) (s := 1) (nbs := 1) (z := .int .u8 0) (m := n) (ys := ys.map u8V) (by simp [facts]) (by simp [facts]) (by simp [facts]) (by simp [facts]) rfl (by decide) h ow
    (src_sl (e1 := 5) (z := .int .u8 0) (by simp [facts]) (by simp [facts]) (by simp [facts]) hs) (by simp [hn]) (one_bytes ys) (by omega) ?_
  intro v' H' R' ow' hl' hk _
  exact hK v' H' R' ow' (by unfold LB; rw [List.length_append, List.map_append, hn]; exact hl') hk
/-- A string appended. -/
theorem app_s {F R0 G R : Heap} {K : Kont} {v : Value} {x : ByteArray} {bs : List UInt8} (h : LB R v bs) (ow : Own F R0 G R) (hb : bs.length + x.size ≤ 100000000)
    (hK : ∀ v' H' R', Own F R0 H' R' → LB R' v' (bs ++ x.data.toList) → (∀ i o, R i = some o → blkV v ≠ some i → R' i = some o ∧ blkV v' ≠ some i) → K v' H') : eApp Try.prog 54 9 v (.string x) G K := by
  refine LstR.app (H0 := F) (B0 := R0) (e := 5) (s := 1) (nbs := 1) (z := .int .u8 0) (m := x.size) (ys := x.data.toList.map u8V) (by simp [facts]) (by simp [facts]) (by simp [facts]) (by simp [facts]) rfl (by decide) h ow
    (src_str (z := .int .u8 0) (by simp [facts]) (by simp [facts]) (by simp [facts])) (by simp) (one_bytes _) (by omega) ?_
  intro v' H' R' ow' hl' hk _
  refine hK v' H' R' ow' ?_ hk
  unfold LB
  rw [List.length_append, List.map_append, Array.length_toList]
  exact hl'
theorem Own.one {H G : Heap} (hl : Heap.le H G) {b : Nat} {o : GObj} (hb : H b = none) (hr : G b = some o) : Own H (fun _ => none) G (upd (fun _ => none) b o) :=
  ⟨fun i x _ hi => ⟨by rw [upd_ne _ _ (ne_of_fresh hb hi)], hl _ _ hi⟩, fun i x hi => by
    by_cases hib : i = b
    · subst hib; rw [upd_same] at hi; cases hi; exact hr
    · rw [upd_ne _ _ hib] at hi; cases hi⟩
theorem LB.one {b : Nat} {bs : List UInt8} {cs : List Value} (e : cs = bs.map u8V) : LB (upd (fun _ => none) b (.row true 0 cs 0)) (.slice (some ⟨b, 0, none⟩) bs.length bs.length) bs :=
  .inr ⟨b, 0, _, [], 0, rfl, by rw [upd_same, e]; simp, by simp, Nat.le_refl _, by simp⟩
theorem sizeZ_2 : sizeZ 2 = 2 := by decide
theorem sizeZ_4 : sizeZ 4 = 4 := by decide
attribute [simp] sizeZ_2 sizeZ_4
def bd1Inv (F R0 : Heap) (b1 bn : Nat) (r : RZ) (st : St) : Prop :=
  ∃ (k : Nat) (R : Heap), k ≤ 3 ∧ st.env 1 = .pointer (some ⟨b1, 0, none⟩) ∧ st.env 4 = .slice (some ⟨bn, 0, none⟩) 3 3 ∧ st.env 5 = .int .i64 k ∧ Own F R0 st.heap R ∧ LB R (st.env 3) (headB r ++ catN ([r.ns, r.rs, r.ls].take k))
def bd2Inv (F R0 : Heap) (b1 bn k : Nat) (r : RZ) (x : NZ) (st : St) : Prop :=
  ∃ (m : Nat) (R : Heap), m ≤ 4 ∧ st.env 1 = .pointer (some ⟨b1, 0, none⟩) ∧ st.env 4 = .slice (some ⟨bn, 0, none⟩) 3 3 ∧ st.env 5 = .int .i64 k ∧ st.env 6 = .int .i64 m ∧ Own F R0 st.heap R ∧ LB R (st.env 3) (headB r ++ catN ([r.ns, r.rs, r.ls].take k) ++ catI (x.l.take m))
def ResB (H H' : Heap) (v : Value) (bs : List UInt8) : Prop := ∃ R, Own H (fun _ => none) H' R ∧ LB R v bs
set_option maxHeartbeats 4000000 in
theorem rbody_c (r : RZ) (H : Heap) (hr : r.right = true) (hw : r.wf) : ECalls Try.prog 41 #[.agg #[.int .i64 r.kind, .int .u16 r.t, .int .u32 r.s, .string r.pan, .int .i64 r.am, .int .i64 r.ns.a, .int .i64 r.ns.b, .int .i64 r.ns.c, .int .i64 r.ns.d, .int .i64 r.rs.a, .int .i64 r.rs.b, .int .i64 r.rs.c, .int .i64 r.rs.d, .int .i64 r.ls.a, .int .i64 r.ls.b, .int .i64 r.ls.c, .int .i64 r.ls.d]] H fun v H' => ResB H H' v (bodyB r) := by
  refine ecalls_of_ewp (args := [_]) Try.func41 rfl rfl rfl (by simp [Try.ntmps41]) (by kernel_rfl) ?_
  obtain ⟨⟨t1, t2⟩, ⟨s1', s2'⟩⟩ := hw
  have hrr := hr
  simp only [RZ.right, Bool.and_eq_true, decide_eq_true_eq] at hrr
  obtain ⟨⟨⟨⟨⟨⟨⟨⟨k1, k2⟩, k3⟩, k4⟩, k5⟩, k6⟩, k7⟩, k8⟩, k9⟩ := hrr
  have hkB : Value.int .u8 r.kind = u8V (kB r) := by
    unfold kB u8V
    congr 1
    rw [UInt8.toNat_ofNat']
    omega
  simp (disch := first | omega | assumption | decide | (simp <;> omega) | fail) [facts, ]
  refine fresh_intro fun b1 hb1 => ?_
  have hle1 := le_upd (.row true 0 [.int .i64 r.kind, .int .u16 r.t, .int .u32 r.s, .string r.pan, .int .i64 r.am, .int .i64 r.ns.a, .int .i64 r.ns.b, .int .i64 r.ns.c, .int .i64 r.ns.d, .int .i64 r.rs.a, .int .i64 r.rs.b, .int .i64 r.rs.c, .int .i64 r.rs.d, .int .i64 r.ls.a, .int .i64 r.ls.b, .int .i64 r.ls.c, .int .i64 r.ls.d] 0) hb1
  have hrow := upd_same H b1 (.row true 0 [.int .i64 r.kind, .int .u16 r.t, .int .u32 r.s, .string r.pan, .int .i64 r.am, .int .i64 r.ns.a, .int .i64 r.ns.b, .int .i64 r.ns.c, .int .i64 r.ns.d, .int .i64 r.rs.a, .int .i64 r.rs.b, .int .i64 r.rs.c, .int .i64 r.rs.d, .int .i64 r.ls.a, .int .i64 r.ls.b, .int .i64 r.ls.c, .int .i64 r.ls.d] 0)
  generalize upd H b1 (.row true 0 [.int .i64 r.kind, .int .u16 r.t, .int .u32 r.s, .string r.pan, .int .i64 r.am, .int .i64 r.ns.a, .int .i64 r.ns.b, .int .i64 r.ns.c, .int .i64 r.ns.d, .int .i64 r.rs.a, .int .i64 r.rs.b, .int .i64 r.rs.c, .int .i64 r.rs.d, .int .i64 r.ls.a, .int .i64 r.ls.b, .int .i64 r.ls.c, .int .i64 r.ls.d] 0) = H1 at *
  simp (disch := first | omega | assumption | decide | (simp <;> omega) | fail) [facts, hrow]
  refine w_growL (by simp [facts]) 9 [7,8,9,10,11,12,13,14,15] [.eq (.pointer (some ⟨b1, 0, none⟩)), .eq (.int .i64 r.kind), .eq (.int .u8 r.kind), .new H1 [.int .u8 r.kind] (fun b => .slice (some ⟨b, 0, none⟩) 1 1), .eq (.pointer (some ⟨b1, 1, none⟩)), .eq (.pointer (some ⟨b1, 1, none⟩)), .eq (.int .u16 r.t), .eq (.int .u64 r.t), .sva (bytesL r.t.toNat 2)] (by decide +kernel) rfl ?_ ?_
  · simp only [List.take_succ_cons, List.take_zero, allL_cons, allL_nil]
    refine ⟨?_, ?_, ?_, ?_, ?_, ?_, ?_, ?_, ?_, trivial⟩
    all_goals (unfold stepL; intro f Hx hl ha; have hx := hl _ _ hrow)
    · simp (disch := first | omega | assumption | decide | (simp <;> omega) | fail) [facts, hx]
    · simp (disch := first | omega | assumption | decide | (simp <;> omega) | fail) [facts, hx]
    · simp (disch := first | omega | assumption | decide | (simp <;> omega) | fail) [facts, hx]
    · simp (disch := first | omega | assumption | decide | (simp <;> omega) | fail) [facts, ]
      refine fresh_intro fun b hb => ?_
      simp (disch := first | omega | assumption | decide | (simp <;> omega) | fail) [facts, ]
      exact ⟨le_upd _ hb, le_of_none hl hb⟩
    · simp (disch := first | omega | assumption | decide | (simp <;> omega) | fail) [facts, hx]
    · simp (disch := first | omega | assumption | decide | (simp <;> omega) | fail) [facts, hx]
    · simp (disch := first | omega | assumption | decide | (simp <;> omega) | fail) [facts, hx]
    · simp (disch := first | omega | assumption | decide | (simp <;> omega) | fail) [facts, hx]
    · simp (disch := first | omega | assumption | decide | (simp <;> omega) | fail) [facts, ]
      have cc := put_c r.t.toNat 2 Hx (by omega) (by unfold i64In; omega)
      rw [Int.toNat_of_nonneg (by omega)] at cc
      simp only [sizeZ_2, sizeZ_4] at cc
      refine cc.mono ?_
      rintro w H' ⟨hl, hO⟩
      simp (disch := first | omega | assumption | decide | (simp <;> omega) | fail) [facts, ]
      exact ⟨hl, SVa.out hO⟩
  intro f H2 hle2 hkn
  replace hkn : (∃ b, f 10 = .slice (some ⟨b, 0, none⟩) 1 1 ∧ H1 b = none ∧ H2 b = some (.row true 0 [.int .u8 r.kind] 0)) ∧ SVa H2 (f 15) (bytesL r.t.toNat 2) := by simpa using hkn
  obtain ⟨⟨b2, f10, hb2, hr2⟩, hsv⟩ := hkn
  simp (disch := first | omega | assumption | decide | (simp <;> omega) | fail) [facts, f10]
  refine app_b (F := H1) (R0 := fun _ => none) (bs := [kB r]) (LB.one (bs := [kB r]) (cs := [.int .u8 r.kind]) (by rw [hkB]; rfl)) (Own.one hle2 hb2 hr2) hsv (by simp [bytesL_len]) ?_
  intro v3 H3 R3 ow3 hl3 _
  have hx3 := ow3.all _ _ hrow
  simp (disch := first | omega | assumption | decide | (simp <;> omega) | fail) [facts, hx3]
  have cc := put_c r.s.toNat 4 H3 (by omega) (by unfold i64In; omega)
  rw [Int.toNat_of_nonneg (by omega)] at cc
  simp only [sizeZ_2, sizeZ_4] at cc
  refine cc.mono ?_
  rintro w H4 ⟨hle4, hO⟩
  simp (disch := first | omega | assumption | decide | (simp <;> omega) | fail) [facts, ]
  refine app_b hl3 (ow3.grow hle4) (SVa.out hO) (by simp [bytesL_len]) ?_
  clear cc hx3
  intro v5 H5 R5 ow5 hl5 _
  have hx5 := ow5.all _ _ hrow
  simp (disch := first | omega | assumption | decide | (simp <;> omega) | fail) [facts, hx5]
  have cc := put_c r.am.toNat 4 H5 (by omega) (by unfold i64In; omega)
  rw [Int.toNat_of_nonneg (by omega)] at cc
  simp only [sizeZ_2, sizeZ_4] at cc
  refine cc.mono ?_
  rintro w H6 ⟨hle6, hO⟩
  simp (disch := first | omega | assumption | decide | (simp <;> omega) | fail) [facts, ]
  refine app_b hl5 (ow5.grow hle6) (SVa.out hO) (by simp [bytesL_len]) ?_
  clear cc hx5
  intro v7 H7 R7 ow7 hl7 _
  have hx7 := ow7.all _ _ hrow
  have hhd : LB R7 v7 (headB r) := by
    have : [kB r] ++ bytesL r.t.toNat 2 ++ bytesL r.s.toNat 4 ++ bytesL r.am.toNat 4 = headB r := by simp [headB]
    rwa [this] at hl7
  simp (disch := first | omega | assumption | decide | (simp <;> omega) | fail) [facts, hx7]
  refine fresh_intro fun bn hbn => ?_
  have ow8 := ow7.grow (le_upd (.row true 0 (splice (splice (splice (zeros [.int .i64 0, .int .i64 0, .int .i64 0, .int .i64 0] 3) 0 [.int .i64 r.ns.a, .int .i64 r.ns.b, .int .i64 r.ns.c, .int .i64 r.ns.d]) 4 [.int .i64 r.rs.a, .int .i64 r.rs.b, .int .i64 r.rs.c, .int .i64 r.rs.d]) 8 [.int .i64 r.ls.a, .int .i64 r.ls.b, .int .i64 r.ls.c, .int .i64 r.ls.d]) 0) hbn)
  have hrn := upd_same H7 bn (.row true 0 (splice (splice (splice (zeros [.int .i64 0, .int .i64 0, .int .i64 0, .int .i64 0] 3) 0 [.int .i64 r.ns.a, .int .i64 r.ns.b, .int .i64 r.ns.c, .int .i64 r.ns.d]) 4 [.int .i64 r.rs.a, .int .i64 r.rs.b, .int .i64 r.rs.c, .int .i64 r.rs.d]) 8 [.int .i64 r.ls.a, .int .i64 r.ls.b, .int .i64 r.ls.c, .int .i64 r.ls.d]) 0)
  simp (disch := first | omega | assumption | decide | (simp <;> omega) | fail) [facts, ]
  generalize upd H7 bn (.row true 0 (splice (splice (splice (zeros [.int .i64 0, .int .i64 0, .int .i64 0, .int .i64 0] 3) 0 [.int .i64 r.ns.a, .int .i64 r.ns.b, .int .i64 r.ns.c, .int .i64 r.ns.d]) 4 [.int .i64 r.rs.a, .int .i64 r.rs.b, .int .i64 r.rs.c, .int .i64 r.rs.d]) 8 [.int .i64 r.ls.a, .int .i64 r.ls.b, .int .i64 r.ls.c, .int .i64 r.ls.d]) 0) = H8 at *
  rw [notes3] at hrn
  have hbnR : R7 bn = none := le_of_none ow7.le hbn
  have hR7 := (ow7.mv _ _ rfl hrow).1
  have hrow8 := ow8.all _ _ hrow
  have owF : Own H (fun _ => none) H8 R7 := Own.since hle1 ow8
  have hRF := ow8.le
  refine w_loop (bd1Inv H8 R7 b1 bn r) (fun st => 3 - (intOf (st.env 5)).toNat) ?_ ?_
  · exact ⟨0, R7, by decide, by simp, by simp, by simp, Own.refl hRF, by simpa [catN] using hhd⟩
  rintro ⟨env, G⟩ ⟨k, R, hk, e1, e4, e5, ow, hls⟩
  simp only at e1 e4 e5 ow hls
  have hnsok : ∀ x ∈ [r.ns, r.rs, r.ls], x.ok = true := fun x hx => by
    simp only [List.mem_cons, List.not_mem_nil, or_false] at hx
    rcases hx with rfl | rfl | rfl <;> assumption
  by_cases hlt : k < 3
  · have hltI : (k : Int) < 3 := by omega
    obtain ⟨x, hx⟩ : ∃ x, [r.ns, r.rs, r.ls][k]? = some x := ⟨_, List.getElem?_eq_getElem (by simpa using hlt)⟩
    have hxok := hnsok x (List.mem_of_getElem? hx)
    simp (disch := first | omega | assumption | decide | (simp <;> omega) | fail) [facts, e1, e4, e5, hltI]
    refine w_loop (bd2Inv H8 R7 b1 bn k r x) (fun st => 4 - (intOf (st.env 6)).toNat) ?_ ?_
    · exact ⟨0, R, by decide, by simp [e1], by simp [e4], by simp [e5], by simp, ow, by simpa [catI] using hls⟩
    clear e1 e4 e5 ow hls
    rintro ⟨env2, G2⟩ ⟨m, R', hm, e1, e4, e5, e6, ow, hls⟩
    simp only at e1 e4 e5 e6 ow hls
    by_cases hm4 : m < 4
    · have hm4I : (m : Int) < 4 := by omega
      obtain ⟨z, hz⟩ : ∃ z, x.l[m]? = some z := ⟨_, List.getElem?_eq_getElem (by simpa [NZ.l] using hm4)⟩
      have rz := x.at hz
      have hzb := inC_of hxok (List.mem_of_getElem? hz)
      have hrnG := (ow.mv _ _ hbnR hrn).2
      have hslG : SlA G2 (some ⟨bn, 0, none⟩) 3 4 (rowsC NZ.cells [r.ns, r.rs, r.ls]) := SlA.row hrnG (Nat.le_refl _) rfl (by simp [rowsC, NZ.cells]) (by simp [rowsC, NZ.cells])
      have rx : rd1U (G2 bn) (0 + k * 4 + m) = some (.int .i64 z) := by rw [hslG.el1 n4 hx (j := m) hm4]; exact rz
      rw [Nat.zero_add] at rx
      generalize e3 : env2 3 = sv2 at hls
      have cc := put_c z.toNat 2 G2 (by omega) (by unfold i64In; omega)
      rw [Int.toNat_of_nonneg (by omega)] at cc
      simp only [sizeZ_2, sizeZ_4] at cc
      simp (disch := first | omega | assumption | decide | (simp <;> omega) | fail) [facts, e1, e4, e5, e6, e3, hltI, hm4I, rx]
      refine cc.mono ?_
      rintro w G3 ⟨hl3, hO⟩
      simp (disch := first | omega | assumption | decide | (simp <;> omega) | fail) [facts, e3]
      refine app_b hls (ow.grow hl3) (SVa.out hO) ?_ ?_
      · simp only [List.length_append, headB_len, catN_len, catI_len, List.length_take, bytesL_len]
        simp [NZ.l]; omega
      intro v' H' R'' ow' hl' _
      simp (disch := first | omega | assumption | decide | (simp <;> omega) | fail) [facts, e6]
      refine ⟨_, Heap.le_refl _, ⟨m + 1, R'', by omega, by simp [e1], by simp [e4], by simp [e5], by simp, ow', ?_⟩, by simp [intOf, e6]; omega⟩
      rw [catI_step hz, ← List.append_assoc]
      simpa using hl'
    · have hm44 : m = 4 := by omega
      subst hm44
      simp (disch := first | omega | assumption | decide | (simp <;> omega) | fail) [facts, e1, e4, e5, e6]
      refine ⟨_, Heap.le_refl _, ⟨k + 1, R', by omega, by simp [e1], by simp [e4], by simp, ow, ?_⟩, by simp [intOf, e5]; omega⟩
      rw [catN_step hx, ← List.append_assoc]
      rw [show x.l.take 4 = x.l from rfl] at hls
      simpa using hls
  have hk3 : k = 3 := by omega
  subst hk3
  have etk : [r.ns, r.rs, r.ls].take 3 = [r.ns, r.rs, r.ls] := rfl
  rw [etk] at hls
  generalize e3 : env 3 = sv at hls
  have hrowG := (ow.mv _ _ hR7 hrow8).2
  simp (disch := first | omega | assumption | decide | (simp <;> omega) | fail) [facts, e1, e4, e5, e3]
  have hpanb : IntKind.wrap .u8 (r.pan.size : Int) = (r.pan.size : Int) := wr_u8 (by omega) (by omega)
  have hpanB : Value.int .u8 (r.pan.size : Int) = u8V (UInt8.ofNat r.pan.size) := by
    unfold u8V
    congr 1
    rw [UInt8.toNat_ofNat']
    omega
  refine w_plan (by simp [facts]) (opsP [0,1,7] (.both (opsP [2,3,4] (.both (opsP [5] (.both (opsP [6,8,9,10] .done) (opsP [8,6,9,10] .done))) (opsP [8,5,6,9,10] .done))) (opsP [8,2,3,4,5,6,9,10] .done))) (by decide +kernel) ?_
  simp (disch := first | omega | assumption | decide | (simp <;> omega) | fail) [facts, e1, e3, hrowG]
  repeat' apply And.intro
  all_goals
    refine fresh_intro fun b hb => ?_
    have hrow5 := upd_other (o := .row true 0 [.int .u8 (r.pan.size : Int)] 0) hb hrowG
    have hsv : SVa (upd G b (.row true 0 [.int .u8 (r.pan.size : Int)] 0)) (.slice (some ⟨b, 0, none⟩) 1 1) [UInt8.ofNat r.pan.size] := ⟨_, 1, 1, rfl, SlA.row (upd_same _ _ _) (Nat.le_refl _) rfl (by simp) (by simp only [List.map_cons, List.map_nil, ← hpanB]; rfl)⟩
    simp (disch := first | omega | assumption | decide | (simp <;> omega) | fail) [facts, e1, e3, hrow5]
    repeat' apply And.intro
  all_goals
    refine app_b hls (ow.grow (le_upd _ (by assumption))) hsv ?_ ?_
    · simp only [List.length_append, headB_len, catN_len, List.length_cons, List.length_nil]
      omega
    intro v' H' R' ow' hl' _
    have hrow6 := (ow'.mv _ _ hR7 hrow8).2
    simp (disch := first | omega | assumption | decide | (simp <;> omega) | fail) [facts, hrow6]
    refine app_s hl' ow' ?_ ?_
    · simp only [List.length_append, headB_len, catN_len, List.length_cons, List.length_nil]
      omega
    intro v2 H2' R2' ow2 hl2 _
    simp (disch := first | omega | assumption | decide | (simp <;> omega) | fail) [facts, ]
    exact ⟨_, Heap.le_refl _, R2', owF.trans ow2, by unfold bodyB; exact hl2⟩
set_option maxHeartbeats 4000000 in
theorem rput_c (r : RZ) (H : Heap) (hr : r.right = true) (hw : r.wf) : ECalls Try.prog 30 #[.agg #[.int .i64 r.kind, .int .u16 r.t, .int .u32 r.s, .string r.pan, .int .i64 r.am, .int .i64 r.ns.a, .int .i64 r.ns.b, .int .i64 r.ns.c, .int .i64 r.ns.d, .int .i64 r.rs.a, .int .i64 r.rs.b, .int .i64 r.rs.c, .int .i64 r.rs.d, .int .i64 r.ls.a, .int .i64 r.ls.b, .int .i64 r.ls.c, .int .i64 r.ls.d]] H fun v H' => ∃ sv, v = .tuple #[sv, .int .i64 0] ∧ ResB H H' sv (putB r) := by
  refine ecalls_of_ewp (args := [_]) Try.func30 rfl rfl rfl (by simp [Try.ntmps30]) (by kernel_rfl) ?_
  have hrr := hr
  simp only [RZ.right, Bool.and_eq_true, decide_eq_true_eq] at hrr
  obtain ⟨⟨⟨⟨⟨⟨⟨⟨k1, k2⟩, k3⟩, k4⟩, k5⟩, k6⟩, k7⟩, k8⟩, k9⟩ := hrr
  simp (disch := first | omega | assumption | decide | (simp <;> omega) | fail) [facts, ]
  refine fresh_intro fun b1 hb1 => ?_
  have hle1 := le_upd (.row true 0 [.int .i64 r.kind, .int .u16 r.t, .int .u32 r.s, .string r.pan, .int .i64 r.am, .int .i64 r.ns.a, .int .i64 r.ns.b, .int .i64 r.ns.c, .int .i64 r.ns.d, .int .i64 r.rs.a, .int .i64 r.rs.b, .int .i64 r.rs.c, .int .i64 r.rs.d, .int .i64 r.ls.a, .int .i64 r.ls.b, .int .i64 r.ls.c, .int .i64 r.ls.d] 0) hb1
  have hrow := upd_same H b1 (.row true 0 [.int .i64 r.kind, .int .u16 r.t, .int .u32 r.s, .string r.pan, .int .i64 r.am, .int .i64 r.ns.a, .int .i64 r.ns.b, .int .i64 r.ns.c, .int .i64 r.ns.d, .int .i64 r.rs.a, .int .i64 r.rs.b, .int .i64 r.rs.c, .int .i64 r.rs.d, .int .i64 r.ls.a, .int .i64 r.ls.b, .int .i64 r.ls.c, .int .i64 r.ls.d] 0)
  generalize upd H b1 (.row true 0 [.int .i64 r.kind, .int .u16 r.t, .int .u32 r.s, .string r.pan, .int .i64 r.am, .int .i64 r.ns.a, .int .i64 r.ns.b, .int .i64 r.ns.c, .int .i64 r.ns.d, .int .i64 r.rs.a, .int .i64 r.rs.b, .int .i64 r.rs.c, .int .i64 r.rs.d, .int .i64 r.ls.a, .int .i64 r.ls.b, .int .i64 r.ls.c, .int .i64 r.ls.d] 0) = H1 at *
  simp (disch := first | omega | assumption | decide | (simp <;> omega) | fail) [facts, hrow]
  refine (rightR_c r H1 (by omega)).mono ?_
  rintro v H2 ⟨rfl, hle2⟩
  have hrow2 := hle2 _ _ hrow
  rw [hr]
  simp (disch := first | omega | assumption | decide | (simp <;> omega) | fail) [facts, hrow2]
  refine (rbody_c r H2 hr hw).mono ?_
  rintro v H3 ⟨R3, ow3, hl3⟩
  simp (disch := first | omega | assumption | decide | (simp <;> omega) | fail) [facts, ]
  have hbl := bodyB_len r
  have hwb : IntKind.wrap .u8 ((bodyB r).length : Int) = ((bodyB r).length : Int) := wr_u8 (by omega) (by omega)
  have hlenB : Value.int .u8 ((bodyB r).length : Int) = u8V (UInt8.ofNat (bodyB r).length) := by
    unfold u8V
    congr 1
    rw [UInt8.toNat_ofNat']
    omega
  obtain ⟨a3, n3, c3, rfl, hs3⟩ := hl3.sv ow3.le
  have hn3 : (bodyB r).length = n3 := by simpa using hs3.len
  subst hn3
  simp (disch := first | omega | assumption | decide | (simp <;> omega) | fail) [facts, hwb]
  refine fresh_intro fun b hb => ?_
  have hlb := le_upd (.row true 0 [.int .u8 165, .int .u8 ((bodyB r).length : Int)] 0) hb
  have hbr := upd_same H3 b (.row true 0 [.int .u8 165, .int .u8 ((bodyB r).length : Int)] 0)
  generalize upd H3 b (.row true 0 [.int .u8 165, .int .u8 ((bodyB r).length : Int)] 0) = H4 at *
  simp (disch := first | omega | assumption | decide | (simp <;> omega) | fail) [facts, ]
  refine app_b (F := H3) (R0 := fun _ => none) (bs := [165, UInt8.ofNat (bodyB r).length]) (ys := bodyB r) (LB.one (bs := [165, UInt8.ofNat (bodyB r).length]) (cs := [.int .u8 165, .int .u8 ((bodyB r).length : Int)]) (by rw [hlenB]; rfl)) (Own.one hlb hb hbr) ⟨_, _, _, rfl, hs3.le hlb⟩ (by simp; omega) ?_
  intro v5 H5 R5 ow5 hl5 _
  simp (disch := first | omega | assumption | decide | (simp <;> omega) | fail) [facts, ]
  refine (crc_c a3 _ c3 (bodyB r) H5 (hs3.le ow5.all) (by omega)).mono ?_
  rintro v H6 ⟨rfl, rfl⟩
  have hcl := crcN_lt (bodyB r)
  simp (disch := first | omega | assumption | decide | (simp <;> omega) | fail) [facts, ]
  have cc := put_c (crcN (bodyB r)) 4 H6 (by omega) (by unfold i64In; omega)
  simp only [sizeZ_2, sizeZ_4] at cc
  refine cc.mono ?_
  rintro w H7 ⟨hle7, hO⟩
  simp (disch := first | omega | assumption | decide | (simp <;> omega) | fail) [facts, ]
  refine app_b hl5 (ow5.grow hle7) (SVa.out hO) (by simp [bytesL_len]; omega) ?_
  intro v8 H8 R8 ow8 hl8 _
  simp (disch := first | omega | assumption | decide | (simp <;> omega) | fail) [facts, ]
  exact ⟨_, Heap.le_refl _, R8, Own.since (Heap.le_trans hle1 (Heap.le_trans hle2 ow3.all)) ow8, by unfold putB; exact hl8⟩
theorem rput_no (r : RZ) (H : Heap) (hr : r.right = false) (hp : r.pan.size ≤ 140737488351232) : ECalls Try.prog 30 #[.agg #[.int .i64 r.kind, .int .u16 r.t, .int .u32 r.s, .string r.pan, .int .i64 r.am, .int .i64 r.ns.a, .int .i64 r.ns.b, .int .i64 r.ns.c, .int .i64 r.ns.d, .int .i64 r.rs.a, .int .i64 r.rs.b, .int .i64 r.rs.c, .int .i64 r.rs.d, .int .i64 r.ls.a, .int .i64 r.ls.b, .int .i64 r.ls.c, .int .i64 r.ls.d]] H fun v H' => v = .tuple #[.slice none 0 0, .int .i64 27] ∧ Heap.le H H' := by
  refine ecalls_of_ewp (args := [_]) Try.func30 rfl rfl rfl (by simp [Try.ntmps30]) (by kernel_rfl) ?_
  simp (disch := first | omega | assumption | decide | (simp <;> omega) | fail) [facts, ]
  refine fresh_intro fun b1 hb1 => ?_
  have hle1 := le_upd (.row true 0 [.int .i64 r.kind, .int .u16 r.t, .int .u32 r.s, .string r.pan, .int .i64 r.am, .int .i64 r.ns.a, .int .i64 r.ns.b, .int .i64 r.ns.c, .int .i64 r.ns.d, .int .i64 r.rs.a, .int .i64 r.rs.b, .int .i64 r.rs.c, .int .i64 r.rs.d, .int .i64 r.ls.a, .int .i64 r.ls.b, .int .i64 r.ls.c, .int .i64 r.ls.d] 0) hb1
  have hrow := upd_same H b1 (.row true 0 [.int .i64 r.kind, .int .u16 r.t, .int .u32 r.s, .string r.pan, .int .i64 r.am, .int .i64 r.ns.a, .int .i64 r.ns.b, .int .i64 r.ns.c, .int .i64 r.ns.d, .int .i64 r.rs.a, .int .i64 r.rs.b, .int .i64 r.rs.c, .int .i64 r.rs.d, .int .i64 r.ls.a, .int .i64 r.ls.b, .int .i64 r.ls.c, .int .i64 r.ls.d] 0)
  generalize upd H b1 (.row true 0 [.int .i64 r.kind, .int .u16 r.t, .int .u32 r.s, .string r.pan, .int .i64 r.am, .int .i64 r.ns.a, .int .i64 r.ns.b, .int .i64 r.ns.c, .int .i64 r.ns.d, .int .i64 r.rs.a, .int .i64 r.rs.b, .int .i64 r.rs.c, .int .i64 r.rs.d, .int .i64 r.ls.a, .int .i64 r.ls.b, .int .i64 r.ls.c, .int .i64 r.ls.d] 0) = H0 at *
  simp (disch := first | omega | assumption | decide | (simp <;> omega) | fail) [facts, hrow]
  refine (rightR_c r H0 hp).mono ?_
  rintro v H1 ⟨rfl, hle2⟩
  rw [hr]
  simp (disch := first | omega | assumption | decide | (simp <;> omega) | fail) [facts, ]
  exact ⟨_, Heap.le_refl _, Heap.le_trans hle1 hle2⟩
end Go.Proofs.Ytnmbmccigpljnaa.GL

namespace Go.Proofs.Ytnmbmccigpljnaa.GL
open Go Go.RowKit
set_option maxRecDepth 10000
set_option pp.deepTerms.threshold 8
set_option pp.maxSteps 3000
set_option linter.unusedSimpArgs false
set_option linter.unusedVariables false

/-- The number of bytes; nought, if it doesn't fit. -/
def numN (bs : List UInt8) : Nat := (numB bs).getD 0
theorem numGo_small : ∀ (bs : List UInt8) (v : Nat), (v + 1) * 256 ^ bs.length ≤ 2 ^ 64 → ∃ w, numGo bs v = some w ∧ w < (v + 1) * 256 ^ bs.length
  | [], v, h => ⟨v, rfl, by simp⟩
  | c :: r, v, h => by
    rw [List.length_cons, Nat.pow_succ, Nat.mul_comm (256 ^ r.length) 256, ← Nat.mul_assoc] at h ⊢
    have h1 : 0 < 256 ^ r.length := Nat.pow_pos (by decide)
    have hc := c.toNat_lt
    have h2 : (v + 1) * 256 ≤ (v + 1) * 256 * 256 ^ r.length := Nat.le_mul_of_pos_right _ h1
    have h3 : (v * 256 + c.toNat + 1) * 256 ^ r.length ≤ (v + 1) * 256 * 256 ^ r.length := Nat.mul_le_mul_right _ (by omega)
    obtain ⟨w, hw, hlt⟩ := numGo_small r (v * 256 + c.toNat) (by omega)
    refine ⟨w, ?_, by omega⟩
    simp only [numGo]
    rw [if_neg (by omega)]
    exact hw
theorem numB_small {bs : List UInt8} (h : bs.length ≤ 8) : numB bs = some (numN bs) ∧ numN bs < 256 ^ bs.length := by
  obtain ⟨w, hw, hlt⟩ := numGo_small bs 0 (by
    rw [Nat.zero_add, Nat.one_mul]
    exact Nat.le_trans (Nat.pow_le_pow_right (by decide) h) (by decide))
  rw [Nat.zero_add, Nat.one_mul] at hlt
  have e : numB bs = some w := hw
  have e2 : numN bs = w := by unfold numN; rw [e]; rfl
  rw [e2]; exact ⟨e, hlt⟩
theorem numN_lt {bs : List UInt8} {m : Nat} (h : bs.length ≤ m) (hm : m ≤ 8) : numN bs < 256 ^ m :=
  Nat.lt_of_lt_of_le (numB_small (by omega)).2 (Nat.pow_le_pow_right (by decide) h)
theorem numN_lt64 (bs : List UInt8) : numN bs < 2 ^ 64 := by
  unfold numN
  cases h : numB bs with
  | none => decide
  | some w => exact numGo_lt bs 0 w (by decide) h
theorem numN_one (c : UInt8) : numN [c] = c.toNat := by simp [numN, numB, numGo]
theorem num1_c (a : Option Addr) (n c : Nat) (bs : List UInt8) (H : Heap) (h : SlA H a n 1 (bs.map u8V)) (hn : n ≤ 140737488351232) :
    ECalls Try.prog 39 #[.slice a n c] H fun r H' => (∃ t : Bool, r = .tuple #[.int .u64 (numN bs : Nat), .bool t]) ∧ H' = H := by
  refine (number_c a n c bs H h hn).mono ?_
  rintro v H' ⟨rfl, rfl⟩
  refine ⟨?_, rfl⟩
  unfold numN numV
  cases numB bs with
  | none => exact ⟨false, rfl⟩
  | some w => exact ⟨true, rfl⟩
/-- A part of a slice of bytes. -/
theorem SlA.mid {H : Heap} {a : Option Addr} {n c l h : Nat} {bs : List UInt8} (hs : SlA H a n 1 (bs.map u8V)) (h1 : l ≤ h) (h2 : h ≤ n) (h3 : n ≤ c) : SlA H (if c = l then a else a.map (fun x => x.add l)) (h - l) 1 (((bs.drop l).take (h - l)).map u8V) := by
  by_cases h0 : c = l
  · have e : h - l = 0 := by omega
    rw [if_pos h0, e]
    have := hs.take (m := 0) (Nat.zero_le _)
    simpa using this
  · rw [if_neg h0]
    have h4 := hs.drop (m := l) (by omega)
    have h5 := h4.take (m := h - l) (by omega)
    simp only [Nat.mul_one] at h5
    rw [List.map_take, List.map_drop]
    exact h5
theorem SlA.tl {H : Heap} {a : Option Addr} {n c l : Nat} {bs : List UInt8} (hs : SlA H a n 1 (bs.map u8V)) (h1 : l ≤ n) (h3 : n ≤ c) : SlA H (if c = l then a else a.map (fun x => x.add l)) (n - l) 1 ((bs.drop l).map u8V) := by
  have hl : bs.length = n := by simpa using hs.len
  have := hs.mid (l := l) (h := n) h1 (Nat.le_refl _) h3
  rw [List.take_of_length_le (by rw [List.length_drop]; omega)] at this
  exact this
theorem SlA.hd {H : Heap} {a : Option Addr} {n h : Nat} {bs : List UInt8} (hs : SlA H a n 1 (bs.map u8V)) (h2 : h ≤ n) : SlA H a h 1 ((bs.take h).map u8V) := by
  have := hs.take h2
  rw [Nat.mul_one] at this
  rw [List.map_take]; exact this
/-- A reader at p of what stands in D. -/
structure RdS (D H : Heap) (p : Nat) (bs : List UInt8) : Prop where
  le : Heap.le D H
  np : D p = none
  row : ∃ a c, H p = some (.row true 0 [.slice a bs.length c] 0) ∧ SlA D a bs.length 1 (bs.map u8V) ∧ bs.length ≤ c
def Keep (p : Nat) (H H' : Heap) : Prop := ∀ i x, i ≠ p → H i = some x → H' i = some x
theorem Keep.refl (p : Nat) (H : Heap) : Keep p H H := fun _ _ _ h => h
theorem Keep.trans {p : Nat} {A B C : Heap} (h : Keep p A B) (k : Keep p B C) : Keep p A C := fun i x hi e => k i x hi (h i x hi e)
theorem Keep.upd {p : Nat} {H : Heap} (o : GObj) : Keep p H (upd H p o) := fun i x hi e => by rw [upd_ne _ _ hi]; exact e
theorem Keep.le {p : Nat} {H H' : Heap} (h : Heap.le H H') : Keep p H H' := fun i x _ e => h i x e
theorem RdS.grow {D H H' : Heap} {p : Nat} {bs : List UInt8} (h : RdS D H p bs) (hl : Heap.le H H') : RdS D H' p bs := by
  obtain ⟨a, c, h1, h2, h3⟩ := h.row
  exact ⟨Heap.le_trans h.le hl, h.np, a, c, hl _ _ h1, h2, h3⟩
theorem RdS.set {D H : Heap} {p q : Nat} {bs : List UInt8} (h : RdS D H p bs) (hq : D q = none) (hqp : q ≠ p) (o : GObj) : RdS D (upd H q o) p bs := by
  obtain ⟨a, c, h1, h2, h3⟩ := h.row
  refine ⟨fun i x e => ?_, h.np, a, c, by rw [upd_ne _ _ hqp.symm]; exact h1, h2, h3⟩
  have : i ≠ q := fun e' => by subst e'; rw [hq] at e; cases e
  rw [upd_ne _ _ this]; exact h.le _ _ e
theorem rnum_c (D H : Heap) (p k : Nat) (bs : List UInt8) (h : RdS D H p bs) (hk : k ≤ bs.length) (hb : bs.length ≤ 100000) :
    ECalls Try.prog 50 #[.pointer (some ⟨p, 0, none⟩), .int .i64 k] H fun v H' => v = .int .u64 (numN (bs.take k) : Nat) ∧ RdS D H' p (bs.drop k) ∧ Keep p H H' := by
  refine ecalls_of_ewp (args := [_, _]) Try.func50 rfl rfl rfl (by simp [Try.ntmps50]) (by kernel_rfl) ?_
  obtain ⟨a, c, hr, hs, hc⟩ := h.row
  have hkc : (k : Int) ≤ (c : Int) := by omega
  have hkI : (k : Int) ≤ (bs.length : Int) := by omega
  simp (disch := first | omega | assumption | decide | (simp <;> omega) | fail) [facts, hr]
  refine (num1_c a k c (bs.take k) H ((hs.hd hk).le h.le) (by omega)).mono ?_
  rintro v H' ⟨⟨t, rfl⟩, rfl⟩
  simp (disch := first | omega | assumption | decide | (simp <;> omega) | fail) [facts, hr]
  refine ⟨_, Heap.le_refl _, ⟨fun i x e => ?_, h.np, _, c - k, by rw [upd_same, List.length_drop], ?_, by rw [List.length_drop]; omega⟩, Keep.upd _⟩
  · have : i ≠ p := fun e' => by subst e'; rw [h.np] at e; cases e
    rw [upd_ne _ _ this]; exact h.le _ _ e
  · rw [List.length_drop]; exact hs.tl hk hc
def nzAt (x : List UInt8) : NZ := ⟨numN (x.take 2), numN ((x.drop 2).take 2), numN ((x.drop 4).take 2), numN ((x.drop 6).take 2)⟩
def nzL (x : List UInt8) (k : Nat) : List Value := (List.range 4).map fun j => if j < k then .int .i64 (numN ((x.drop (2 * j)).take 2) : Nat) else .int .i64 0
theorem nzL_len (x : List UInt8) (k : Nat) : (nzL x k).length = 4 := by simp [nzL]
theorem nzL_set (x : List UInt8) (k : Nat) (hk : k < 4) : (nzL x k).set k (.int .i64 (numN ((x.drop (2 * k)).take 2) : Nat)) = nzL x (k + 1) := by
  rcases k with _ | _ | _ | _ | k <;> first | rfl | omega
theorem nzL_4 (bs : List UInt8) : nzL bs 4 = [.int .i64 (numN (bs.take 2) : Nat), .int .i64 (numN ((bs.drop 2).take 2) : Nat), .int .i64 (numN ((bs.drop 4).take 2) : Nat), .int .i64 (numN ((bs.drop 6).take 2) : Nat)] := rfl
def rnInv (D H0 : Heap) (p b2 b3 : Nat) (bs : List UInt8) (st : St) : Prop :=
  ∃ k : Nat, k ≤ 4 ∧ st.env 0 = .pointer (some ⟨p, 0, none⟩) ∧ st.env 2 = .pointer (some ⟨b2, 0, none⟩) ∧ st.env 3 = .pointer (some ⟨b3, 0, none⟩) ∧ st.env 5 = .int .i64 k ∧ RdS D st.heap p (bs.drop (2 * k)) ∧ Keep p H0 st.heap ∧ H0 b3 = none ∧ st.heap b3 = some (.row true 0 (nzL bs k) 0) ∧ H0 b2 = none ∧ b2 ≠ b3 ∧ st.heap b2 = some (.row true 0 [.int .i64 0, .int .i64 0, .int .i64 0, .int .i64 0] 0)
theorem rnotes_c (D H : Heap) (p : Nat) (bs : List UInt8) (h : RdS D H p bs) (hk : 8 ≤ bs.length) (hb : bs.length ≤ 100000) :
    ECalls Try.prog 51 #[.pointer (some ⟨p, 0, none⟩)] H fun v H' => v = .agg #[.int .i64 (numN (bs.take 2) : Nat), .int .i64 (numN ((bs.drop 2).take 2) : Nat), .int .i64 (numN ((bs.drop 4).take 2) : Nat), .int .i64 (numN ((bs.drop 6).take 2) : Nat)] ∧ RdS D H' p (bs.drop 8) ∧ Keep p H H' := by
  refine ecalls_of_ewp (args := [_]) Try.func51 rfl rfl rfl (by simp [Try.ntmps51]) (by kernel_rfl) ?_
  obtain ⟨a, c, hr, hs, hc⟩ := h.row
  simp (disch := first | omega | assumption | decide | (simp <;> omega) | fail) [facts, ]
  refine fresh_intro fun b2 hb2 => ?_
  simp (disch := first | omega | assumption | decide | (simp <;> omega) | fail) [facts, ]
  refine fresh_intro fun b3 hb3 => ?_
  have hn2 := upd_same H b2 (.row true 0 [.int .i64 0, .int .i64 0, .int .i64 0, .int .i64 0] 0)
  have h23 : b2 ≠ b3 := fun e => by subst e; rw [upd_same] at hb3; cases hb3
  have hb3' : H b3 = none := by rw [upd_ne _ _ h23.symm] at hb3; exact hb3
  simp (disch := first | omega | assumption | decide | (simp <;> omega) | fail) [facts, ]
  refine w_loop (rnInv D H p b2 b3 bs) (fun st => 4 - (intOf (st.env 5)).toNat) ?_ ?_
  · exact ⟨0, by decide, by simp, by simp, by simp, by simp, (h.grow (le_upd _ hb2)).grow (le_upd _ hb3), Keep.le (Heap.le_trans (le_upd _ hb2) (le_upd _ hb3)), hb3', upd_same _ _ _, hb2, h23, (upd_ne _ _ h23).trans hn2⟩
  rintro ⟨env, G⟩ ⟨k, hk4, e0, e2, e3, e5, hrd, hkp, n3, r3, n2, _, r2⟩
  simp only at e0 e2 e3 e5 hrd hkp r3 r2
  have hp3 : b3 ≠ p := fun e => by subst e; rw [hr] at n3; cases n3
  have hp2 : b2 ≠ p := fun e => by subst e; rw [hr] at n2; cases n2
  by_cases hlt : k < 4
  · have hltI : (k : Int) < 4 := by omega
    have cc := rnum_c D G p 2 (bs.drop (2 * k)) hrd (by rw [List.length_drop]; omega) (by rw [List.length_drop]; omega)
    have hv := numN_lt (bs := (bs.drop (2 * k)).take 2) (m := 2) (by rw [List.length_take]; omega) (by decide)
    simp (disch := first | omega | assumption | decide | (simp <;> omega) | fail) [facts, e0, e3, e5, hltI]
    refine cc.mono ?_
    rintro v G2 ⟨rfl, hrd2, hkp2⟩
    have r3' := hkp2 _ _ hp3 r3
    have r2' := hkp2 _ _ hp2 r2
    have hlen := nzL_len bs k
    have hset := nzL_set bs k hlt
    simp (disch := first | omega | assumption | decide | (simp <;> omega) | fail) [facts, e0, e3, e5, r3', hset]
    refine ⟨_, Heap.le_refl _, ⟨k + 1, by omega, by simp [e0], by simp [e2], by simp [e3], by simp, ?_, ?_, n3, upd_same _ _ _, n2, h23, (upd_ne _ _ h23).trans r2'⟩, by simp [intOf, e5]; omega⟩
    · rw [List.drop_drop] at hrd2
      rw [show 2 * (k + 1) = 2 * k + 2 by omega]
      exact hrd2.set (le_of_none h.le n3) hp3 _
    · exact fun i x hi e => (upd_ne _ _ (ne_of_fresh n3 e)).trans (hkp2 i x hi (hkp i x hi e))
  · have hk4 : k = 4 := by omega
    subst hk4
    rw [nzL_4] at r3
    simp (disch := first | omega | assumption | decide | (simp <;> omega) | fail) [facts, e0, e2, e3, e5, r3, r2]
    exact ⟨_, Heap.le_refl _, hrd.set (le_of_none h.le n2) hp2 _, fun i x hi e => (upd_ne _ _ (ne_of_fresh n2 e)).trans (hkp i x hi e)⟩
end Go.Proofs.Ytnmbmccigpljnaa.GL

namespace Go.Proofs.Ytnmbmccigpljnaa.GL
open Go Go.RowKit
set_option maxRecDepth 10000
set_option pp.deepTerms.threshold 8
set_option pp.maxSteps 3000
set_option linter.unusedSimpArgs false
set_option linter.unusedVariables false

def recOf (x : List UInt8) : RZ := ⟨numN (x.take 1), numN ((x.drop 1).take 2), numN ((x.drop 3).take 4), mkS (x.drop 36), numN ((x.drop 7).take 4), nzAt (x.drop 11), nzAt (x.drop 19), nzAt (x.drop 27)⟩
theorem recOf_b (x : List UInt8) : (0 ≤ (recOf x).kind ∧ (recOf x).kind < 256) ∧ (0 ≤ (recOf x).t ∧ (recOf x).t < 65536) ∧ (0 ≤ (recOf x).s ∧ (recOf x).s < 4294967296) ∧ (0 ≤ (recOf x).am ∧ (recOf x).am < 4294967296) := by
  have h1 := numN_lt (bs := x.take 1) (m := 1) (by rw [List.length_take]; omega) (by decide)
  have h2 := numN_lt (bs := (x.drop 1).take 2) (m := 2) (by rw [List.length_take]; omega) (by decide)
  have h3 := numN_lt (bs := (x.drop 3).take 4) (m := 4) (by rw [List.length_take]; omega) (by decide)
  have h4 := numN_lt (bs := (x.drop 7).take 4) (m := 4) (by rw [List.length_take]; omega) (by decide)
  simp only [recOf]
  omega
theorem recOf_wf (x : List UInt8) : (recOf x).wf := by
  have := recOf_b x
  exact ⟨by omega, by omega⟩
theorem mkS_sz (l : List UInt8) : (mkS l).size = l.length := by simp [mkS, ByteArray.size]
theorem le_updN {D H : Heap} {b : Nat} (h : Heap.le D H) (hb : D b = none) (o : GObj) : Heap.le D (upd H b o) := fun i x e => by rw [upd_ne _ _ (ne_of_fresh hb e)]; exact h i x e
theorem rep13 : rep 13 (.int .i64 0) = [.int .i64 0, .int .i64 0, .int .i64 0, .int .i64 0, .int .i64 0, .int .i64 0, .int .i64 0, .int .i64 0, .int .i64 0, .int .i64 0, .int .i64 0, .int .i64 0, .int .i64 0] := rfl
attribute [simp] rep13
theorem fbody_no (a : Option Addr) (n c : Nat) (H : Heap) (hn : n < 36) :
    ECalls Try.prog 38 #[.slice a n c] H fun v H' => v = .tuple #[.agg #[.int .i64 0, .int .u16 0, .int .u32 0, .string ByteArray.empty, .int .i64 0, .int .i64 0, .int .i64 0, .int .i64 0, .int .i64 0, .int .i64 0, .int .i64 0, .int .i64 0, .int .i64 0, .int .i64 0, .int .i64 0, .int .i64 0, .int .i64 0], .bool false] ∧ Heap.le H H' := by
  refine ecalls_of_ewp (args := [_]) Try.func38 rfl rfl rfl (by simp [Try.ntmps38]) (by kernel_rfl) ?_
  have hnI : (n : Int) < 36 := by omega
  simp (disch := first | omega | assumption | decide | (simp <;> omega) | fail) [facts, ]
  refine fresh_intro fun b hb => ?_
  simp (disch := first | omega | assumption | decide | (simp <;> omega) | fail) [facts, hnI, upd_upd]
  exact ⟨_, Heap.le_refl _, le_upd _ hb⟩
theorem fbody_c (a : Option Addr) (n c : Nat) (bs : List UInt8) (H : Heap) (h : SlA H a n 1 (bs.map u8V)) (hc : n ≤ c) (hn : 36 ≤ n) (hb : n ≤ 1000) (r : RZ) (hr : r = recOf bs) :
    ECalls Try.prog 38 #[.slice a n c] H fun v H' => v = .tuple #[.agg #[.int .i64 r.kind, .int .u16 r.t, .int .u32 r.s, .string r.pan, .int .i64 r.am, .int .i64 r.ns.a, .int .i64 r.ns.b, .int .i64 r.ns.c, .int .i64 r.ns.d, .int .i64 r.rs.a, .int .i64 r.rs.b, .int .i64 r.rs.c, .int .i64 r.rs.d, .int .i64 r.ls.a, .int .i64 r.ls.b, .int .i64 r.ls.c, .int .i64 r.ls.d], .bool (decide (numN ((bs.drop 35).take 1) = n - 36) && r.right)] ∧ Heap.le H H' := by
  refine ecalls_of_ewp (args := [_]) Try.func38 rfl rfl rfl (by simp [Try.ntmps38]) (by kernel_rfl) ?_
  have hl : bs.length = n := by simpa using h.len
  have hnI : ¬ (n : Int) < 36 := by omega
  have hrb := recOf_b bs
  rw [← hr] at hrb
  obtain ⟨⟨k1, k2⟩, ⟨t1, t2⟩, ⟨s1', s2'⟩, ⟨a1, a2⟩⟩ := hrb
  have ek : ((numN (bs.take 1) : Nat) : Int) = r.kind := by rw [hr]; rfl
  have et : ((numN ((bs.drop 1).take 2) : Nat) : Int) = r.t := by rw [hr]; rfl
  have es : ((numN ((bs.drop 3).take 4) : Nat) : Int) = r.s := by rw [hr]; rfl
  have ea : ((numN ((bs.drop 7).take 4) : Nat) : Int) = r.am := by rw [hr]; rfl
  have ep : mkS (bs.drop 36) = r.pan := by rw [hr]; rfl
  simp (disch := first | omega | assumption | decide | (simp <;> omega) | fail) [facts, ]
  refine fresh_intro fun b2 hb2 => ?_
  have hl2 := le_upd (.row true 0 [.int .i64 0, .int .u16 0, .int .u32 0, .string ByteArray.empty, .int .i64 0, .int .i64 0, .int .i64 0, .int .i64 0, .int .i64 0, .int .i64 0, .int .i64 0, .int .i64 0, .int .i64 0, .int .i64 0, .int .i64 0, .int .i64 0, .int .i64 0] 0) hb2
  have hr2 := upd_same H b2 (.row true 0 [.int .i64 0, .int .u16 0, .int .u32 0, .string ByteArray.empty, .int .i64 0, .int .i64 0, .int .i64 0, .int .i64 0, .int .i64 0, .int .i64 0, .int .i64 0, .int .i64 0, .int .i64 0, .int .i64 0, .int .i64 0, .int .i64 0, .int .i64 0] 0)
  generalize hH2 : upd H b2 (.row true 0 [.int .i64 0, .int .u16 0, .int .u32 0, .string ByteArray.empty, .int .i64 0, .int .i64 0, .int .i64 0, .int .i64 0, .int .i64 0, .int .i64 0, .int .i64 0, .int .i64 0, .int .i64 0, .int .i64 0, .int .i64 0, .int .i64 0, .int .i64 0] 0) = H2 at *
  simp (disch := first | omega | assumption | decide | (simp <;> omega) | fail) [facts, hnI]
  refine fresh_intro fun p hp => ?_
  have hpH : H p = none := le_of_none hl2 hp
  have rd0 : RdS H (upd H2 p (.row true 0 [.slice a n c] 0)) p bs := ⟨Heap.le_trans hl2 (le_upd _ hp), hpH, a, c, by rw [upd_same, hl], by rw [hl]; exact h, by omega⟩
  have r2p := upd_other (o := .row true 0 [.slice a n c] 0) hp hr2
  have h2p : b2 ≠ p := ne_of_fresh hp hr2
  generalize upd H2 p (.row true 0 [.slice a n c] 0) = H3 at *
  simp (disch := first | omega | assumption | decide | (simp <;> omega) | fail) [facts, ]
  refine (rnum_c H H3 p 1 bs rd0 (by omega) (by omega)).mono ?_
  rintro v H4 ⟨rfl, rd1, kp1⟩
  rw [ek]
  simp (disch := first | omega | assumption | decide | (simp <;> omega) | fail) [facts, ]
  refine (rnum_c H H4 p 2 (bs.drop 1) rd1 (by rw [List.length_drop]; omega) (by rw [List.length_drop]; omega)).mono ?_
  rintro v H5 ⟨rfl, rd2, kp2⟩
  rw [List.drop_drop] at rd2
  rw [et]
  simp (disch := first | omega | assumption | decide | (simp <;> omega) | fail) [facts, ]
  refine (rnum_c H H5 p 4 (bs.drop 3) rd2 (by rw [List.length_drop]; omega) (by rw [List.length_drop]; omega)).mono ?_
  rintro v H6 ⟨rfl, rd3, kp3⟩
  rw [List.drop_drop] at rd3
  rw [es]
  simp (disch := first | omega | assumption | decide | (simp <;> omega) | fail) [facts, ]
  refine (rnum_c H H6 p 4 (bs.drop 7) rd3 (by rw [List.length_drop]; omega) (by rw [List.length_drop]; omega)).mono ?_
  rintro v H7 ⟨rfl, rd4, kp4⟩
  rw [List.drop_drop] at rd4
  rw [ea]
  have kp := ((kp1.trans kp2).trans kp3).trans kp4
  have r7 := kp _ _ h2p r2p
  simp (disch := first | omega | assumption | decide | (simp <;> omega) | fail) [facts, ]
  refine fresh_intro fun b5 hb5 => ?_
  have h5p : b5 ≠ p := fun e => by
    subst e
    obtain ⟨_, _, hx, _⟩ := rd4.row
    rw [hx] at hb5; cases hb5
  have h52 : b5 ≠ b2 := (ne_of_fresh hb5 r7).symm
  have hb5H : H b5 = none := le_of_none rd4.le hb5
  simp (disch := first | omega | assumption | decide | (simp <;> omega) | fail) [facts, ]
  simp only [upd_upd]
  have rd5 := rd4.grow (le_upd (.row true 0 [.int .i64 r.kind, .int .u16 r.t, .int .u32 r.s, .string ByteArray.empty, .int .i64 r.am, .int .i64 0, .int .i64 0, .int .i64 0, .int .i64 0, .int .i64 0, .int .i64 0, .int .i64 0, .int .i64 0, .int .i64 0, .int .i64 0, .int .i64 0, .int .i64 0] 0) hb5)
  have r8 := upd_other (o := .row true 0 [.int .i64 r.kind, .int .u16 r.t, .int .u32 r.s, .string ByteArray.empty, .int .i64 r.am, .int .i64 0, .int .i64 0, .int .i64 0, .int .i64 0, .int .i64 0, .int .i64 0, .int .i64 0, .int .i64 0, .int .i64 0, .int .i64 0, .int .i64 0, .int .i64 0] 0) hb5 r7
  have r5 := upd_same H7 b5 (.row true 0 [.int .i64 r.kind, .int .u16 r.t, .int .u32 r.s, .string ByteArray.empty, .int .i64 r.am, .int .i64 0, .int .i64 0, .int .i64 0, .int .i64 0, .int .i64 0, .int .i64 0, .int .i64 0, .int .i64 0, .int .i64 0, .int .i64 0, .int .i64 0, .int .i64 0] 0)
  generalize upd H7 b5 (.row true 0 [.int .i64 r.kind, .int .u16 r.t, .int .u32 r.s, .string ByteArray.empty, .int .i64 r.am, .int .i64 0, .int .i64 0, .int .i64 0, .int .i64 0, .int .i64 0, .int .i64 0, .int .i64 0, .int .i64 0, .int .i64 0, .int .i64 0, .int .i64 0, .int .i64 0] 0) = H8 at *
  refine (rnotes_c H H8 p (bs.drop 11) rd5 (by rw [List.length_drop]; omega) (by rw [List.length_drop]; omega)).mono ?_
  rintro v H9 ⟨hv, rd6, kp6⟩
  obtain rfl : v = .agg #[.int .i64 r.ns.a, .int .i64 r.ns.b, .int .i64 r.ns.c, .int .i64 r.ns.d] := by rw [hv, hr]; rfl
  rw [List.drop_drop] at rd6
  simp (disch := first | omega | assumption | decide | (simp <;> omega) | fail) [facts, ]
  refine (rnotes_c H H9 p (bs.drop 19) rd6 (by rw [List.length_drop]; omega) (by rw [List.length_drop]; omega)).mono ?_
  rintro v H10 ⟨hv, rd7, kp7⟩
  obtain rfl : v = .agg #[.int .i64 r.rs.a, .int .i64 r.rs.b, .int .i64 r.rs.c, .int .i64 r.rs.d] := by rw [hv, hr]; rfl
  rw [List.drop_drop] at rd7
  simp (disch := first | omega | assumption | decide | (simp <;> omega) | fail) [facts, ]
  refine (rnotes_c H H10 p (bs.drop 27) rd7 (by rw [List.length_drop]; omega) (by rw [List.length_drop]; omega)).mono ?_
  rintro v H11 ⟨hv, rd8, kp8⟩
  obtain rfl : v = .agg #[.int .i64 r.ls.a, .int .i64 r.ls.b, .int .i64 r.ls.c, .int .i64 r.ls.d] := by rw [hv, hr]; rfl
  rw [List.drop_drop] at rd8
  have kpb := (kp6.trans kp7).trans kp8
  have r5' := kpb _ _ h5p r5
  have r2' := kpb _ _ h2p r8
  simp (disch := first | omega | assumption | decide | (simp <;> omega) | fail) [facts, r5', upd_upd]
  have rd9 := rd8.set hb5H h5p (.row true 0 [.int .i64 r.kind, .int .u16 r.t, .int .u32 r.s, .string ByteArray.empty, .int .i64 r.am, .int .i64 r.ns.a, .int .i64 r.ns.b, .int .i64 r.ns.c, .int .i64 r.ns.d, .int .i64 r.rs.a, .int .i64 r.rs.b, .int .i64 r.rs.c, .int .i64 r.rs.d, .int .i64 r.ls.a, .int .i64 r.ls.b, .int .i64 r.ls.c, .int .i64 r.ls.d] 0)
  have r5c := upd_same H11 b5 (.row true 0 [.int .i64 r.kind, .int .u16 r.t, .int .u32 r.s, .string ByteArray.empty, .int .i64 r.am, .int .i64 r.ns.a, .int .i64 r.ns.b, .int .i64 r.ns.c, .int .i64 r.ns.d, .int .i64 r.rs.a, .int .i64 r.rs.b, .int .i64 r.rs.c, .int .i64 r.rs.d, .int .i64 r.ls.a, .int .i64 r.ls.b, .int .i64 r.ls.c, .int .i64 r.ls.d] 0)
  have r2c : upd H11 b5 (.row true 0 [.int .i64 r.kind, .int .u16 r.t, .int .u32 r.s, .string ByteArray.empty, .int .i64 r.am, .int .i64 r.ns.a, .int .i64 r.ns.b, .int .i64 r.ns.c, .int .i64 r.ns.d, .int .i64 r.rs.a, .int .i64 r.rs.b, .int .i64 r.rs.c, .int .i64 r.rs.d, .int .i64 r.ls.a, .int .i64 r.ls.b, .int .i64 r.ls.c, .int .i64 r.ls.d] 0) b2 = _ := (upd_ne _ _ h52.symm).trans r2'
  generalize upd H11 b5 (.row true 0 [.int .i64 r.kind, .int .u16 r.t, .int .u32 r.s, .string ByteArray.empty, .int .i64 r.am, .int .i64 r.ns.a, .int .i64 r.ns.b, .int .i64 r.ns.c, .int .i64 r.ns.d, .int .i64 r.rs.a, .int .i64 r.rs.b, .int .i64 r.rs.c, .int .i64 r.rs.d, .int .i64 r.ls.a, .int .i64 r.ls.b, .int .i64 r.ls.c, .int .i64 r.ls.d] 0) = H12 at *
  refine (rnum_c H H12 p 1 (bs.drop 35) rd9 (by rw [List.length_drop]; omega) (by rw [List.length_drop]; omega)).mono ?_
  rintro v H13 ⟨rfl, rd10, kp10⟩
  rw [List.drop_drop] at rd10
  have hq := numN_lt (bs := (bs.drop 35).take 1) (m := 1) (by rw [List.length_take]; omega) (by decide)
  generalize numN ((bs.drop 35).take 1) = q at *
  have r5d := kp10 _ _ h5p r5c
  have r2d := kp10 _ _ h2p r2c
  obtain ⟨a6, c6, r6, hs6, hc6⟩ := rd10.row
  have hl6 : (bs.drop 36).length = n - 36 := by rw [List.length_drop, hl]
  rw [hl6] at r6 hs6
  simp (disch := first | omega | assumption | decide | (simp <;> omega) | fail) [facts, r6]
  rw [conv_bytes (by simp [facts]) (hs6.le rd10.le), ep]
  simp (disch := first | omega | assumption | decide | (simp <;> omega) | fail) [facts, r5d]
  have rd11 := rd10.set hb5H h5p (.row true 0 [.int .i64 r.kind, .int .u16 r.t, .int .u32 r.s, .string r.pan, .int .i64 r.am, .int .i64 r.ns.a, .int .i64 r.ns.b, .int .i64 r.ns.c, .int .i64 r.ns.d, .int .i64 r.rs.a, .int .i64 r.rs.b, .int .i64 r.rs.c, .int .i64 r.rs.d, .int .i64 r.ls.a, .int .i64 r.ls.b, .int .i64 r.ls.c, .int .i64 r.ls.d] 0)
  have r5e := upd_same H13 b5 (.row true 0 [.int .i64 r.kind, .int .u16 r.t, .int .u32 r.s, .string r.pan, .int .i64 r.am, .int .i64 r.ns.a, .int .i64 r.ns.b, .int .i64 r.ns.c, .int .i64 r.ns.d, .int .i64 r.rs.a, .int .i64 r.rs.b, .int .i64 r.rs.c, .int .i64 r.rs.d, .int .i64 r.ls.a, .int .i64 r.ls.b, .int .i64 r.ls.c, .int .i64 r.ls.d] 0)
  have r6e : upd H13 b5 (.row true 0 [.int .i64 r.kind, .int .u16 r.t, .int .u32 r.s, .string r.pan, .int .i64 r.am, .int .i64 r.ns.a, .int .i64 r.ns.b, .int .i64 r.ns.c, .int .i64 r.ns.d, .int .i64 r.rs.a, .int .i64 r.rs.b, .int .i64 r.rs.c, .int .i64 r.rs.d, .int .i64 r.ls.a, .int .i64 r.ls.b, .int .i64 r.ls.c, .int .i64 r.ls.d] 0) p = _ := (upd_ne _ _ h5p.symm).trans r6
  have r2e : upd H13 b5 (.row true 0 [.int .i64 r.kind, .int .u16 r.t, .int .u32 r.s, .string r.pan, .int .i64 r.am, .int .i64 r.ns.a, .int .i64 r.ns.b, .int .i64 r.ns.c, .int .i64 r.ns.d, .int .i64 r.rs.a, .int .i64 r.rs.b, .int .i64 r.rs.c, .int .i64 r.rs.d, .int .i64 r.ls.a, .int .i64 r.ls.b, .int .i64 r.ls.c, .int .i64 r.ls.d] 0) b2 = _ := (upd_ne _ _ h52.symm).trans r2d
  generalize upd H13 b5 (.row true 0 [.int .i64 r.kind, .int .u16 r.t, .int .u32 r.s, .string r.pan, .int .i64 r.am, .int .i64 r.ns.a, .int .i64 r.ns.b, .int .i64 r.ns.c, .int .i64 r.ns.d, .int .i64 r.rs.a, .int .i64 r.rs.b, .int .i64 r.rs.c, .int .i64 r.rs.d, .int .i64 r.ls.a, .int .i64 r.ls.b, .int .i64 r.ls.c, .int .i64 r.ls.d] 0) = H14 at *
  have hle14 := rd11.le
  refine w_plan (by simp [facts]) (opsP [1,2,3,4] (.both (opsP [0,5,6,7,8,9,10,11,12,13] .done) (opsP [5,6,7,8] (.both (opsP [0,9,10,11,12,13] .done) (opsP [9] (.both (opsP [0,10,11,12,13] .done) (opsP [10,11,0,12,13] .done))))))) (by decide +kernel) ?_
  have hps : r.pan.size = n - 36 := by rw [← ep, mkS_sz, hl6]
  by_cases hqn : q = n - 36
  · have hqI : (q : Int) = ((n - 36 : Nat) : Int) := by omega
    simp (disch := first | omega | assumption | decide | (simp <;> omega) | fail) [facts, r6e, r5e, hqI, hqn]
    repeat' apply And.intro
    all_goals
      refine (right_c r H14 (by omega)).mono ?_
      rintro v H15 ⟨rfl, hle15⟩
      have r5f := hle15 _ _ r5e
      have r2f := hle15 _ _ r2e
      simp (disch := first | omega | assumption | decide | (simp <;> omega) | fail) [facts, r5f, r2f]
      exact ⟨_, Heap.le_refl _, le_updN (Heap.le_trans hle14 hle15) hb2 _⟩
  · have hqI : ¬ (q : Int) = ((n - 36 : Nat) : Int) := by omega
    simp (disch := first | omega | assumption | decide | (simp <;> omega) | fail) [facts, r6e, r5e, hqI, hqn, r2e]
    exact ⟨_, Heap.le_refl _, le_updN hle14 hb2 _⟩
end Go.Proofs.Ytnmbmccigpljnaa.GL

namespace Go.Proofs.Ytnmbmccigpljnaa.GL
open Go Go.RowKit
set_option maxRecDepth 10000
set_option pp.deepTerms.threshold 8
set_option pp.maxSteps 3000
set_option linter.unusedSimpArgs false
set_option linter.unusedVariables false

def zeroN : NZ := ⟨0, 0, 0, 0⟩
def zeroZ : RZ := ⟨0, 0, 0, ByteArray.empty, 0, zeroN, zeroN, zeroN⟩
def bodyOf (b : List UInt8) (n : Nat) : List UInt8 := (b.drop 2).take n
/-- The record that bytes begin with: how many bytes; an error. -/
def readZ (b : List UInt8) : RZ × Nat × Int :=
  match b with
  | m :: l :: _ =>
    if m.toNat ≠ 165 ∨ b.length < 6 + l.toNat ∨ l.toNat < 36 then (zeroZ, 0, 23) else
    if numN (((bodyOf b l.toNat).drop 35).take 1) ≠ l.toNat - 36 ∨ (recOf (bodyOf b l.toNat)).right = false then (zeroZ, 0, 23) else
    if numN ((b.drop (2 + l.toNat)).take 4) ≠ crcN (bodyOf b l.toNat) then (zeroZ, 0, 24) else (recOf (bodyOf b l.toNat), 6 + l.toNat, 0)
  | _ => (zeroZ, 0, 23)
theorem readZ_short {b : List UInt8} (h : b.length < 2) : readZ b = (zeroZ, 0, 23) := by
  match b with
  | [] => rfl
  | [x] => rfl
  | x :: y :: l => simp at h; omega
theorem bodyOf_len {b : List UInt8} {n : Nat} (h : 2 + n ≤ b.length) : (bodyOf b n).length = n := by
  unfold bodyOf; rw [List.length_take, List.length_drop]; omega
theorem fread_c (a : Option Addr) (n c : Nat) (bs : List UInt8) (H : Heap) (h : SlA H a n 1 (bs.map u8V)) (hc : n ≤ c) (hb : n ≤ 100000) (r : RZ) (k : Nat) (e : Int) (hq : readZ bs = (r, k, e)) :
    ECalls Try.prog 28 #[.slice a n c] H fun v H' => v = .tuple #[.agg #[.int .i64 r.kind, .int .u16 r.t, .int .u32 r.s, .string r.pan, .int .i64 r.am, .int .i64 r.ns.a, .int .i64 r.ns.b, .int .i64 r.ns.c, .int .i64 r.ns.d, .int .i64 r.rs.a, .int .i64 r.rs.b, .int .i64 r.rs.c, .int .i64 r.rs.d, .int .i64 r.ls.a, .int .i64 r.ls.b, .int .i64 r.ls.c, .int .i64 r.ls.d], .int .i64 k, .int .i64 e] ∧ Heap.le H H' := by
  refine ecalls_of_ewp (args := [_]) Try.func28 rfl rfl rfl (by simp [Try.ntmps28]) (by kernel_rfl) ?_
  have hl : bs.length = n := by simpa using h.len
  simp (disch := first | omega | assumption | decide | (simp <;> omega) | fail) [facts, ]
  refine fresh_intro fun b2 hb2 => ?_
  simp (disch := first | omega | assumption | decide | (simp <;> omega) | fail) [facts, upd_upd]
  have hl2 := le_upd (.row true 0 [.int .i64 0, .int .u16 0, .int .u32 0, .string ByteArray.empty, .int .i64 0, .int .i64 0, .int .i64 0, .int .i64 0, .int .i64 0, .int .i64 0, .int .i64 0, .int .i64 0, .int .i64 0, .int .i64 0, .int .i64 0, .int .i64 0, .int .i64 0] 0) hb2
  have hr2 := upd_same H b2 (.row true 0 [.int .i64 0, .int .u16 0, .int .u32 0, .string ByteArray.empty, .int .i64 0, .int .i64 0, .int .i64 0, .int .i64 0, .int .i64 0, .int .i64 0, .int .i64 0, .int .i64 0, .int .i64 0, .int .i64 0, .int .i64 0, .int .i64 0, .int .i64 0] 0)
  generalize upd H b2 (.row true 0 [.int .i64 0, .int .u16 0, .int .u32 0, .string ByteArray.empty, .int .i64 0, .int .i64 0, .int .i64 0, .int .i64 0, .int .i64 0, .int .i64 0, .int .i64 0, .int .i64 0, .int .i64 0, .int .i64 0, .int .i64 0, .int .i64 0, .int .i64 0] 0) = H2 at *
  by_cases h2 : n < 2
  · have h2I : (n : Int) < 2 := by omega
    rw [readZ_short (by omega)] at hq
    cases hq
    simp (disch := first | omega | assumption | decide | (simp <;> omega) | fail) [facts, h2I, hr2, zeroZ, zeroN]
    exact ⟨_, Heap.le_refl _, le_updN hl2 hb2 _⟩
  have h2I : ¬ (n : Int) < 2 := by omega
  obtain ⟨m, l, rest, hbs⟩ : ∃ m l rest, bs = m :: l :: rest := by
    match bs, hl with
    | [], hl => simp at hl; omega
    | [x], hl => simp at hl; omega
    | x :: y :: t, hl => exact ⟨x, y, t, rfl⟩
  have hs2 := h.le hl2
  have g0 : at1 H2 a 0 = some (.int .u8 m.toNat) := (hs2.at (k := 0) (x := m) (by rw [hbs]; rfl))
  have g1 : at1 H2 a 1 = some (.int .u8 l.toNat) := (hs2.at (k := 1) (x := l) (by rw [hbs]; rfl))
  have px := h.plain
  have tx := h.there (by omega)
  have hlb := l.toNat_lt
  have hmb := m.toNat_lt
  have hq2 : (if m.toNat ≠ 165 ∨ n < 6 + l.toNat ∨ l.toNat < 36 then (zeroZ, 0, 23) else
    if numN (((bodyOf bs l.toNat).drop 35).take 1) ≠ l.toNat - 36 ∨ (recOf (bodyOf bs l.toNat)).right = false then (zeroZ, 0, 23) else
    if numN ((bs.drop (2 + l.toNat)).take 4) ≠ crcN (bodyOf bs l.toNat) then (zeroZ, 0, 24) else (recOf (bodyOf bs l.toNat), 6 + l.toNat, (0 : Int))) = (r, k, e) := by
    rw [← hq, hbs]
    unfold readZ
    simp only [← hbs, hl]
  clear hq
  generalize hL : l.toNat = L at *
  by_cases hm : m.toNat = 165
  case neg =>
    have hmI : ¬ (m.toNat : Int) = 165 := by omega
    rw [if_pos (.inl hm)] at hq2
    cases hq2
    simp (disch := first | omega | assumption | decide | (simp <;> omega) | fail) [facts, h2I, hr2, g0, px, tx, hmI, zeroZ, zeroN]
    exact ⟨_, Heap.le_refl _, le_updN hl2 hb2 _⟩
  have hmI : (m.toNat : Int) = 165 := by omega
  by_cases hn6 : n < 6 + L
  case pos =>
    have hnI : (n : Int) < 2 + (L : Int) + 4 := by omega
    rw [if_pos (.inr (.inl hn6))] at hq2
    cases hq2
    simp (disch := first | omega | assumption | decide | (simp <;> omega) | fail) [facts, h2I, hr2, g0, g1, px, tx, hmI, hnI, zeroZ, zeroN]
    exact ⟨_, Heap.le_refl _, le_updN hl2 hb2 _⟩
  have hnI : ¬ (n : Int) < 2 + (L : Int) + 4 := by omega
  have hx := hs2.mid (c := c) (l := 2) (h := 2 + L) (by omega) (by omega) hc
  rw [show 2 + L - 2 = L by omega] at hx
  have hbl := bodyOf_len (b := bs) (n := L) (by omega)
  have hx' : SlA H2 (if c = 2 then a else a.map fun x => x.add 2) L 1 ((bodyOf bs L).map u8V) := hx
  clear hx
  generalize hX : bodyOf bs L = X at *
  have hcI : (2 : Int) + (L : Int) ≤ (c : Int) := by omega
  have e2L : ((2 : Int) + (L : Int)).toNat = 2 + L := by omega
  have e2L' : 2 + L - 2 = L := by omega
  by_cases h36 : L < 36
  case pos =>
    rw [if_pos (.inr (.inr h36))] at hq2
    cases hq2
    simp (disch := first | omega | assumption | decide | (simp <;> omega) | fail) [facts, h2I, hr2, g0, g1, px, tx, hmI, hnI, zeroZ, zeroN, hcI, e2L, e2L']
    refine (fbody_no _ L _ H2 h36).mono ?_
    rintro v H3 ⟨rfl, hl3⟩
    have hr3 := hl3 _ _ hr2
    simp (disch := first | omega | assumption | decide | (simp <;> omega) | fail) [facts, ]
    refine fresh_intro fun b6 hb6 => ?_
    have hl6 := le_upd (.row true 0 [.int .i64 0, .int .u16 0, .int .u32 0, .string ByteArray.empty, .int .i64 0, .int .i64 0, .int .i64 0, .int .i64 0, .int .i64 0, .int .i64 0, .int .i64 0, .int .i64 0, .int .i64 0, .int .i64 0, .int .i64 0, .int .i64 0, .int .i64 0] 0) hb6
    have hr6 := hl6 _ _ hr3
    simp (disch := first | omega | assumption | decide | (simp <;> omega) | fail) [facts, hr6, upd_upd]
    exact ⟨_, Heap.le_refl _, le_updN (Heap.le_trans hl2 (Heap.le_trans hl3 hl6)) hb2 _⟩
  rw [if_neg (by omega)] at hq2
  simp (disch := first | omega | assumption | decide | (simp <;> omega) | fail) [facts, h2I, hr2, g0, g1, px, tx, hmI, hnI, hcI, e2L, e2L']
  refine (fbody_c _ L _ X H2 hx' (by omega) (by omega) (by omega) (recOf X) rfl).mono ?_
  rintro v H3 ⟨rfl, hl3⟩
  have hr3 := hl3 _ _ hr2
  generalize hR : recOf X = R at *
  generalize hB : (decide (numN ((X.drop 35).take 1) = L - 36) && R.right) = B at *
  simp (disch := first | omega | assumption | decide | (simp <;> omega) | fail) [facts, ]
  refine fresh_intro fun b6 hb6 => ?_
  have hl6 := le_upd (.row true 0 [.int .i64 0, .int .u16 0, .int .u32 0, .string ByteArray.empty, .int .i64 0, .int .i64 0, .int .i64 0, .int .i64 0, .int .i64 0, .int .i64 0, .int .i64 0, .int .i64 0, .int .i64 0, .int .i64 0, .int .i64 0, .int .i64 0, .int .i64 0] 0) hb6
  have hr6 := hl6 _ _ hr3
  have h62 : b2 ≠ b6 := ne_of_fresh hb6 hr3
  simp (disch := first | omega | assumption | decide | (simp <;> omega) | fail) [facts, hr6, upd_upd]
  have hl6 := le_upd (.row true 0 [.int .i64 R.kind, .int .u16 R.t, .int .u32 R.s, .string R.pan, .int .i64 R.am, .int .i64 R.ns.a, .int .i64 R.ns.b, .int .i64 R.ns.c, .int .i64 R.ns.d, .int .i64 R.rs.a, .int .i64 R.rs.b, .int .i64 R.rs.c, .int .i64 R.rs.d, .int .i64 R.ls.a, .int .i64 R.ls.b, .int .i64 R.ls.c, .int .i64 R.ls.d] 0) hb6
  have hr6 := hl6 _ _ hr3
  have hq6 := upd_same H3 b6 (.row true 0 [.int .i64 R.kind, .int .u16 R.t, .int .u32 R.s, .string R.pan, .int .i64 R.am, .int .i64 R.ns.a, .int .i64 R.ns.b, .int .i64 R.ns.c, .int .i64 R.ns.d, .int .i64 R.rs.a, .int .i64 R.rs.b, .int .i64 R.rs.c, .int .i64 R.rs.d, .int .i64 R.ls.a, .int .i64 R.ls.b, .int .i64 R.ls.c, .int .i64 R.ls.d] 0)
  generalize upd H3 b6 (.row true 0 [.int .i64 R.kind, .int .u16 R.t, .int .u32 R.s, .string R.pan, .int .i64 R.am, .int .i64 R.ns.a, .int .i64 R.ns.b, .int .i64 R.ns.c, .int .i64 R.ns.d, .int .i64 R.rs.a, .int .i64 R.rs.b, .int .i64 R.rs.c, .int .i64 R.rs.d, .int .i64 R.ls.a, .int .i64 R.ls.b, .int .i64 R.ls.c, .int .i64 R.ls.d] 0) = H6 at *
  have hl06 := Heap.le_trans hl2 (Heap.le_trans hl3 hl6)
  by_cases hok : numN ((X.drop 35).take 1) = L - 36 ∧ R.right = true
  case neg =>
    have hok1 : numN ((X.drop 35).take 1) ≠ L - 36 ∨ R.right = false := by
      by_cases h1 : numN ((X.drop 35).take 1) = L - 36
      · right
        cases h3 : R.right with
        | false => rfl
        | true => exact absurd ⟨h1, h3⟩ hok
      · exact .inl h1
    obtain rfl : B = false := by
      rw [← hB]
      rcases hok1 with h1 | h1 <;> simp [h1]
    rw [if_pos hok1] at hq2
    cases hq2
    simp (disch := first | omega | assumption | decide | (simp <;> omega) | fail) [facts, hr6, zeroZ, zeroN]
    exact ⟨_, Heap.le_refl _, le_updN hl06 hb2 _⟩
  obtain ⟨hok1, hok2⟩ := hok
  rw [if_neg (by simp [hok1, hok2])] at hq2
  obtain rfl : B = true := by rw [← hB]; simp [hok1, hok2]
  have hS := (hs2.mid (c := c) (l := 2 + L) (h := 2 + L + 4) (by omega) (by omega) hc)
  rw [show 2 + L + 4 - (2 + L) = 4 by omega] at hS
  have hcI4 : (2 : Int) + (L : Int) + 4 ≤ (c : Int) := by omega
  have e2L4 : ((2 : Int) + (L : Int) + 4).toNat = 2 + L + 4 := by omega
  have e2L4' : 2 + L + 4 - (2 + L) = 4 := by omega
  have hN := numN_lt (bs := (bs.drop (2 + L)).take 4) (m := 4) (by rw [List.length_take]; omega) (by decide)
  have hC := crcN_lt X
  simp (disch := first | omega | assumption | decide | (simp <;> omega) | fail) [facts, hcI4, e2L4, e2L4', e2L]
  refine (num1_c _ 4 _ ((bs.drop (2 + L)).take 4) H6 (hS.le (Heap.le_trans hl3 hl6)) (by omega)).mono ?_
  rintro v H7 ⟨⟨t, rfl⟩, rfl⟩
  generalize hNq : numN ((bs.drop (2 + L)).take 4) = N at *
  have hNw : IntKind.wrap .u32 (N : Int) = (N : Int) := wr_u32 (by omega) (by omega)
  simp (disch := first | omega | assumption | decide | (simp <;> omega) | fail) [facts, hNw, hcI, e2L, e2L']
  refine (sum_c _ L _ X H7 (hx'.le (Heap.le_trans hl3 hl6)) (by omega)).mono ?_
  rintro v H8 ⟨rfl, rfl⟩
  by_cases hsum : N = crcN X
  · have hsI : (N : Int) = (crcN X : Int) := by omega
    rw [if_neg (by simp [hsum])] at hq2
    cases hq2
    simp (disch := first | omega | assumption | decide | (simp <;> omega) | fail) [facts, hsI, hq6, hr6]
    exact ⟨_, Heap.le_refl _, by omega, le_updN hl06 hb2 _⟩
  · have hsI : ¬ (N : Int) = (crcN X : Int) := by omega
    rw [if_pos hsum] at hq2
    cases hq2
    simp (disch := first | omega | assumption | decide | (simp <;> omega) | fail) [facts, hsI, hq6, hr6, zeroZ, zeroN]
    exact ⟨_, Heap.le_refl _, le_updN hl06 hb2 _⟩
end Go.Proofs.Ytnmbmccigpljnaa.GL

namespace Go.Proofs.Ytnmbmccigpljnaa.GL
open Go Go.RowKit
set_option maxRecDepth 10000
set_option pp.deepTerms.threshold 8
set_option pp.maxSteps 3000
set_option linter.unusedSimpArgs false
set_option linter.unusedVariables false

theorem SlA.midL {H : Heap} {b o n : Nat} {bs : List UInt8} (hs : SlA H (some ⟨b, o, none⟩) n 1 (bs.map u8V)) (l k : Nat) (h2 : l + k ≤ n) : SlA H (some ⟨b, o + l, none⟩) k 1 (((bs.drop l).take k).map u8V) := by
  have h := hs.mid (c := n + l + 1) (l := l) (h := l + k) (by omega) h2 (by omega)
  rw [if_neg (by omega), Option.map_some, Addr.add_mid, show l + k - l = k by omega] at h
  exact h
theorem SlA.tlL {H : Heap} {b o n : Nat} {bs : List UInt8} (hs : SlA H (some ⟨b, o, none⟩) n 1 (bs.map u8V)) (l : Nat) (h2 : l ≤ n) : SlA H (some ⟨b, o + l, none⟩) (n - l) 1 ((bs.drop l).map u8V) := by
  have h := hs.tl (c := n + l + 1) (l := l) (by omega) (by omega)
  rw [if_neg (by omega), Option.map_some, Addr.add_mid] at h
  exact h
def recL (R : RZ) (X : List UInt8) (k : Nat) : List Value := [.int .i64 R.kind, .int .u16 R.t, .int .u32 R.s, .string R.pan, .int .i64 R.am] ++ (nzL (X.drop 11) k ++ (nzL (X.drop 19) k ++ nzL (X.drop 27) k))
theorem recL_len (R : RZ) (X : List UInt8) (k : Nat) : (recL R X k).length = 17 := by simp [recL, nzL_len]
theorem recL_set (R : RZ) (X : List UInt8) (k : Nat) (hk : k < 4) : (((recL R X k).set (5 + k) (.int .i64 (numN ((X.drop (11 + 2 * k)).take 2) : Nat))).set (9 + k) (.int .i64 (numN ((X.drop (19 + 2 * k)).take 2) : Nat))).set (13 + k) (.int .i64 (numN ((X.drop (27 + 2 * k)).take 2) : Nat)) = recL R X (k + 1) := by
  have e1 : numN ((X.drop (11 + 2 * k)).take 2) = numN (((X.drop 11).drop (2 * k)).take 2) := by rw [List.drop_drop]
  have e2 : numN ((X.drop (19 + 2 * k)).take 2) = numN (((X.drop 19).drop (2 * k)).take 2) := by rw [List.drop_drop]
  have e3 : numN ((X.drop (27 + 2 * k)).take 2) = numN (((X.drop 27).drop (2 * k)).take 2) := by rw [List.drop_drop]
  rw [e1, e2, e3]
  rcases k with _ | _ | _ | _ | k <;> first | rfl | omega
theorem recL_zero (R : RZ) (X : List UInt8) : recL R X 0 = [.int .i64 R.kind, .int .u16 R.t, .int .u32 R.s, .string R.pan, .int .i64 R.am, .int .i64 0, .int .i64 0, .int .i64 0, .int .i64 0, .int .i64 0, .int .i64 0, .int .i64 0, .int .i64 0, .int .i64 0, .int .i64 0, .int .i64 0, .int .i64 0] := rfl
theorem recL_all (R : RZ) (X : List UInt8) (hR : recOf X = R) : recL R X 4 = [.int .i64 R.kind, .int .u16 R.t, .int .u32 R.s, .string R.pan, .int .i64 R.am, .int .i64 R.ns.a, .int .i64 R.ns.b, .int .i64 R.ns.c, .int .i64 R.ns.d, .int .i64 R.rs.a, .int .i64 R.rs.b, .int .i64 R.rs.c, .int .i64 R.rs.d, .int .i64 R.ls.a, .int .i64 R.ls.b, .int .i64 R.ls.c, .int .i64 R.ls.d] := by
  subst hR
  have h : ∀ x : List UInt8, nzL x 4 = (nzAt x).cells := fun x => rfl
  unfold recL
  rw [h, h, h]
  rfl
def rdInv (H3 : Heap) (ab ao n c' b2 L b7 : Nat) (R : RZ) (X : List UInt8) (st : St) : Prop :=
  ∃ k : Nat, k ≤ 4 ∧ st.env 0 = .slice (some ⟨ab, ao, none⟩) n (c' + 2) ∧ st.env 2 = .pointer (some ⟨b2, 0, none⟩) ∧ st.env 5 = .int .i64 L ∧ st.env 6 = .slice (some ⟨ab, ao + 2, none⟩) L c' ∧ st.env 7 = .pointer (some ⟨b7, 0, none⟩) ∧ st.env 8 = .int .i64 k ∧ Keep b7 H3 st.heap ∧ st.heap b7 = some (.row true 0 (recL R X k) 0)
end Go.Proofs.Ytnmbmccigpljnaa.GL

namespace Go.Proofs.Ytnmbmccigpljnaa.GL
open Go Go.RowKit
set_option maxRecDepth 10000
set_option pp.deepTerms.threshold 8
set_option pp.maxSteps 3000
set_option linter.unusedSimpArgs false
set_option linter.unusedVariables false

def panL (k : Nat) : List UInt8 := if k = 0 then [52, 48, 48, 48, 49, 50, 51, 52, 49, 50, 51, 52, 49, 50, 51, 52] else if k = 1 then [53, 49] else if k = 2 then [57] else [54, 48, 49, 49, 48, 48, 48, 57, 57, 48, 49, 51, 57, 52, 50, 52]
def panS (k : Nat) : ByteArray := mkS (panL (k % 4))
theorem pan_c (k : Nat) (hk : k < 256) (H : Heap) : ECalls Try.prog 34 #[.int .u8 k] H fun v H' => v = .string (panS k) ∧ Heap.le H H' := by
  refine ecalls_of_ewp (args := [_]) Try.func34 rfl rfl rfl (by simp [Try.ntmps34]) (by kernel_rfl) ?_
  obtain ⟨q, hq⟩ : ∃ q : Nat, q = k % 4 := ⟨_, rfl⟩
  have hqI : (k : Int) % 4 = (q : Int) := by omega
  have hq4 : q < 4 := by omega
  unfold panS
  rw [← hq]
  simp (disch := first | omega | assumption | decide | (simp <;> omega) | fail) [facts, ]
  refine fresh_intro fun b hb => ?_
  have hcs : q = 0 ∨ q = 1 ∨ q = 2 ∨ q = 3 := by omega
  rcases hcs with rfl | rfl | rfl | rfl
  all_goals
    simp (disch := first | omega | assumption | decide | (simp <;> omega) | fail) [facts, hqI]
    exact ⟨_, Heap.le_refl _, rfl, le_upd _ hb⟩
def recS (kind k stan amount : Nat) : RZ :=
  ⟨(kind % 9 + 1 : Nat), (k % 3 : Nat), (stan % 4 + 1 : Nat), if kind % 9 = 0 then panS k else ByteArray.empty, (amount % 5000 : Nat),
   if kind % 9 = 4 ∨ kind % 9 = 5 then ⟨(k % 4 : Nat), (k / 4 % 4 : Nat), 0, 0⟩ else if kind % 9 = 7 then ⟨(k / 3 : Nat), (stan % 8 : Nat), 0, 0⟩ else zeroN,
   if kind % 9 = 4 ∨ kind % 9 = 5 then ⟨(k / 16 % 2 : Nat), 0, 0, 0⟩ else zeroN,
   if kind % 9 = 7 then ⟨(k : Nat), (k / 2 : Nat), 10000, (stan : Nat)⟩ else zeroN⟩
theorem rec_c (kind k stan amount : Nat) (h1 : kind < 256) (h2 : k < 256) (h3 : stan < 256) (h4 : amount < 65536) (H : Heap) (r : RZ) (hr : r = recS kind k stan amount) :
    ECalls Try.prog 20 #[.int .u8 kind, .int .u8 k, .int .u8 stan, .int .u16 amount] H fun v H' => v = .agg #[.int .i64 r.kind, .int .u16 r.t, .int .u32 r.s, .string r.pan, .int .i64 r.am, .int .i64 r.ns.a, .int .i64 r.ns.b, .int .i64 r.ns.c, .int .i64 r.ns.d, .int .i64 r.rs.a, .int .i64 r.rs.b, .int .i64 r.rs.c, .int .i64 r.rs.d, .int .i64 r.ls.a, .int .i64 r.ls.b, .int .i64 r.ls.c, .int .i64 r.ls.d] ∧ Heap.le H H' := by
  refine ecalls_of_ewp (args := [_, _, _, _]) Try.func20 rfl rfl rfl (by simp [Try.ntmps20]) (by kernel_rfl) ?_
  obtain ⟨kq, hkq⟩ : ∃ q : Nat, q = kind % 9 := ⟨_, rfl⟩
  have e1 : (kind : Int) % 9 = (kq : Int) := by omega
  obtain ⟨tt, htt⟩ : ∃ q : Nat, q = k % 3 := ⟨_, rfl⟩
  have e2 : (k : Int) % 3 = (tt : Int) := by omega
  obtain ⟨sq, hsq⟩ : ∃ q : Nat, q = stan % 4 := ⟨_, rfl⟩
  have e3 : (stan : Int) % 4 = (sq : Int) := by omega
  obtain ⟨am, ham⟩ : ∃ q : Nat, q = amount % 5000 := ⟨_, rfl⟩
  have e4 : (amount : Int) % 5000 = (am : Int) := by omega
  unfold recS at hr
  rw [← hkq, ← htt, ← hsq, ← ham] at hr
  simp (disch := first | omega | assumption | decide | (simp <;> omega) | fail) [facts, ]
  refine fresh_intro fun b8 hb8 => ?_
  simp (disch := first | omega | assumption | decide | (simp <;> omega) | fail) [facts, e1, e2, e3, e4]
  refine fresh_intro fun b9 hb9 => ?_
  have r8 := upd_other (o := .row true 0 [.int .i64 0, .int .u16 0, .int .u32 0, .string ByteArray.empty, .int .i64 0, .int .i64 0, .int .i64 0, .int .i64 0, .int .i64 0, .int .i64 0, .int .i64 0, .int .i64 0, .int .i64 0, .int .i64 0, .int .i64 0, .int .i64 0, .int .i64 0] 0) hb9 (upd_same H b8 (.row true 0 [.int .i64 0, .int .u16 0, .int .u32 0, .string ByteArray.empty, .int .i64 0, .int .i64 0, .int .i64 0, .int .i64 0, .int .i64 0, .int .i64 0, .int .i64 0, .int .i64 0, .int .i64 0, .int .i64 0, .int .i64 0, .int .i64 0, .int .i64 0] 0))
  have h89 : b8 ≠ b9 := ne_of_fresh hb9 (upd_same H b8 (.row true 0 [.int .i64 0, .int .u16 0, .int .u32 0, .string ByteArray.empty, .int .i64 0, .int .i64 0, .int .i64 0, .int .i64 0, .int .i64 0, .int .i64 0, .int .i64 0, .int .i64 0, .int .i64 0, .int .i64 0, .int .i64 0, .int .i64 0, .int .i64 0] 0))
  have hl9 := Heap.le_trans (le_upd (.row true 0 [.int .i64 0, .int .u16 0, .int .u32 0, .string ByteArray.empty, .int .i64 0, .int .i64 0, .int .i64 0, .int .i64 0, .int .i64 0, .int .i64 0, .int .i64 0, .int .i64 0, .int .i64 0, .int .i64 0, .int .i64 0, .int .i64 0, .int .i64 0] 0) hb8) (le_upd (.row true 0 [.int .i64 0, .int .u16 0, .int .u32 0, .string ByteArray.empty, .int .i64 0, .int .i64 0, .int .i64 0, .int .i64 0, .int .i64 0, .int .i64 0, .int .i64 0, .int .i64 0, .int .i64 0, .int .i64 0, .int .i64 0, .int .i64 0, .int .i64 0] 0) hb9)
  have hb9' : H b9 = none := le_of_none (le_upd (.row true 0 [.int .i64 0, .int .u16 0, .int .u32 0, .string ByteArray.empty, .int .i64 0, .int .i64 0, .int .i64 0, .int .i64 0, .int .i64 0, .int .i64 0, .int .i64 0, .int .i64 0, .int .i64 0, .int .i64 0, .int .i64 0, .int .i64 0, .int .i64 0] 0) hb8) hb9
  simp (disch := first | omega | assumption | decide | (simp <;> omega) | fail) [facts, upd_upd]
  have r9 := upd_same (upd H b8 (.row true 0 [.int .i64 0, .int .u16 0, .int .u32 0, .string ByteArray.empty, .int .i64 0, .int .i64 0, .int .i64 0, .int .i64 0, .int .i64 0, .int .i64 0, .int .i64 0, .int .i64 0, .int .i64 0, .int .i64 0, .int .i64 0, .int .i64 0, .int .i64 0] 0)) b9 (.row true 0 [.int .i64 ((kq : Int) + 1), .int .u16 tt, .int .u32 ((sq : Int) + 1), .string ByteArray.empty, .int .i64 am, .int .i64 0, .int .i64 0, .int .i64 0, .int .i64 0, .int .i64 0, .int .i64 0, .int .i64 0, .int .i64 0, .int .i64 0, .int .i64 0, .int .i64 0, .int .i64 0] 0)
  have r8' : upd (upd H b8 (.row true 0 [.int .i64 0, .int .u16 0, .int .u32 0, .string ByteArray.empty, .int .i64 0, .int .i64 0, .int .i64 0, .int .i64 0, .int .i64 0, .int .i64 0, .int .i64 0, .int .i64 0, .int .i64 0, .int .i64 0, .int .i64 0, .int .i64 0, .int .i64 0] 0)) b9 (.row true 0 [.int .i64 ((kq : Int) + 1), .int .u16 tt, .int .u32 ((sq : Int) + 1), .string ByteArray.empty, .int .i64 am, .int .i64 0, .int .i64 0, .int .i64 0, .int .i64 0, .int .i64 0, .int .i64 0, .int .i64 0, .int .i64 0, .int .i64 0, .int .i64 0, .int .i64 0, .int .i64 0] 0) b8 = _ := (upd_ne _ _ h89).trans (upd_same H b8 (.row true 0 [.int .i64 0, .int .u16 0, .int .u32 0, .string ByteArray.empty, .int .i64 0, .int .i64 0, .int .i64 0, .int .i64 0, .int .i64 0, .int .i64 0, .int .i64 0, .int .i64 0, .int .i64 0, .int .i64 0, .int .i64 0, .int .i64 0, .int .i64 0] 0))
  have hl9' : Heap.le H (upd (upd H b8 (.row true 0 [.int .i64 0, .int .u16 0, .int .u32 0, .string ByteArray.empty, .int .i64 0, .int .i64 0, .int .i64 0, .int .i64 0, .int .i64 0, .int .i64 0, .int .i64 0, .int .i64 0, .int .i64 0, .int .i64 0, .int .i64 0, .int .i64 0, .int .i64 0] 0)) b9 (.row true 0 [.int .i64 ((kq : Int) + 1), .int .u16 tt, .int .u32 ((sq : Int) + 1), .string ByteArray.empty, .int .i64 am, .int .i64 0, .int .i64 0, .int .i64 0, .int .i64 0, .int .i64 0, .int .i64 0, .int .i64 0, .int .i64 0, .int .i64 0, .int .i64 0, .int .i64 0, .int .i64 0] 0)) := le_updN (le_upd _ hb8) hb9' _
  clear r8 hl9
  generalize upd (upd H b8 (.row true 0 [.int .i64 0, .int .u16 0, .int .u32 0, .string ByteArray.empty, .int .i64 0, .int .i64 0, .int .i64 0, .int .i64 0, .int .i64 0, .int .i64 0, .int .i64 0, .int .i64 0, .int .i64 0, .int .i64 0, .int .i64 0, .int .i64 0, .int .i64 0] 0)) b9 (.row true 0 [.int .i64 ((kq : Int) + 1), .int .u16 tt, .int .u32 ((sq : Int) + 1), .string ByteArray.empty, .int .i64 am, .int .i64 0, .int .i64 0, .int .i64 0, .int .i64 0, .int .i64 0, .int .i64 0, .int .i64 0, .int .i64 0, .int .i64 0, .int .i64 0, .int .i64 0, .int .i64 0] 0) = H9 at *
  obtain ⟨q1, hq1⟩ : ∃ q : Nat, q = k % 4 := ⟨_, rfl⟩
  obtain ⟨q2, hq2⟩ : ∃ q : Nat, q = k / 4 % 4 := ⟨_, rfl⟩
  obtain ⟨q3, hq3⟩ : ∃ q : Nat, q = k / 16 % 2 := ⟨_, rfl⟩
  obtain ⟨q4, hq4⟩ : ∃ q : Nat, q = k / 3 := ⟨_, rfl⟩
  obtain ⟨q5, hq5⟩ : ∃ q : Nat, q = stan % 8 := ⟨_, rfl⟩
  obtain ⟨q6, hq6⟩ : ∃ q : Nat, q = k / 2 := ⟨_, rfl⟩
  have f1 : (k : Int) % 4 = (q1 : Int) := by omega
  have f2 : (k : Int) / 4 % 4 = (q2 : Int) := by omega
  have f3 : (k : Int) / 16 % 2 = (q3 : Int) := by omega
  have f4 : (k : Int) / 3 = (q4 : Int) := by omega
  have f5 : (stan : Int) % 8 = (q5 : Int) := by omega
  have f6 : (k : Int) / 2 = (q6 : Int) := by omega
  rw [← hq1, ← hq2, ← hq3, ← hq4, ← hq5, ← hq6] at hr
  have hcs : kq = 0 ∨ kq = 1 ∨ kq = 2 ∨ kq = 3 ∨ kq = 4 ∨ kq = 5 ∨ kq = 6 ∨ kq = 7 ∨ kq = 8 := by omega
  rcases hcs with rfl | rfl | rfl | rfl | rfl | rfl | rfl | rfl | rfl
  · simp [zeroN] at hr
    subst hr
    simp (disch := first | omega | assumption | decide | (simp <;> omega) | fail) [facts, ]
    refine (pan_c k h2 H9).mono ?_
    rintro v H10 ⟨rfl, hl10⟩
    have r9' := hl10 _ _ r9
    have r8'' := hl10 _ _ r8'
    have hlA := Heap.le_trans hl9' hl10
    simp (disch := first | omega | assumption | decide | (simp <;> omega) | fail) [facts, r9']
    have r8c : upd H10 b9 (.row true 0 [.int .i64 1, .int .u16 tt, .int .u32 ((sq : Int) + 1), .string (panS k), .int .i64 am, .int .i64 0, .int .i64 0, .int .i64 0, .int .i64 0, .int .i64 0, .int .i64 0, .int .i64 0, .int .i64 0, .int .i64 0, .int .i64 0, .int .i64 0, .int .i64 0] 0) b8 = _ := (upd_ne _ _ h89).trans r8''
    simp (disch := first | omega | assumption | decide | (simp <;> omega) | fail) [facts, r8c]
    exact ⟨_, Heap.le_refl _, le_updN (le_updN hlA hb9' _) hb8 _⟩
  all_goals
    simp [zeroN] at hr
    subst hr
  all_goals
    have h89u : ∀ o, upd H9 b9 o b8 = some (.row true 0 [.int .i64 0, .int .u16 0, .int .u32 0, .string ByteArray.empty, .int .i64 0, .int .i64 0, .int .i64 0, .int .i64 0, .int .i64 0, .int .i64 0, .int .i64 0, .int .i64 0, .int .i64 0, .int .i64 0, .int .i64 0, .int .i64 0, .int .i64 0] 0) := fun o => (upd_ne _ _ h89).trans r8'
    simp (disch := first | omega | assumption | decide | (simp <;> omega) | fail) [facts, r9, r8', h89u, e1, e2, e3, e4, f1, f2, f3, f4, f5, f6, upd_upd]
    exact ⟨_, Heap.le_refl _, by first | exact le_updN hl9' hb8 _ | exact le_updN (le_updN hl9' hb9' _) hb8 _⟩
theorem panL_len : ∀ k, k < 4 → (panL k).length ≤ 16 ∧ (panL k).all isD = true ∧ 0 < (panL k).length := by
  intro k hk
  have : k = 0 ∨ k = 1 ∨ k = 2 ∨ k = 3 := by omega
  rcases this with rfl | rfl | rfl | rfl <;> decide
theorem panS_ok (k : Nat) : (panS k).size ≤ 16 ∧ allD (panS k) = true ∧ 0 < (panS k).size := by
  have := panL_len (k % 4) (Nat.mod_lt _ (by decide))
  unfold panS
  rw [mkS_sz]
  refine ⟨this.1, ?_, this.2.2⟩
  unfold allD
  rw [mkS_list]; exact this.2.1
theorem nz_ok {a b c d : Int} (h1 : 0 ≤ a ∧ a ≤ 10000) (h2 : 0 ≤ b ∧ b ≤ 10000) (h3 : 0 ≤ c ∧ c ≤ 10000) (h4 : 0 ≤ d ∧ d ≤ 10000) : (NZ.mk a b c d).ok = true := by
  simp [NZ.ok, NZ.l, inC, h1, h2, h3, h4]
/-- Such a record may be. -/
theorem recS_right (kind k stan amount : Nat) (h2 : k < 256) (h3 : stan < 256) : (recS kind k stan amount).right = true ∧ (recS kind k stan amount).wf := by
  have hp := panS_ok k
  refine ⟨?_, ⟨⟨?_, ?_⟩, ⟨?_, ?_⟩⟩⟩
  · have p1 : (recS kind k stan amount).pan.size ≤ 16 ∧ allD (recS kind k stan amount).pan = true := by
      unfold recS
      simp only
      split
      · exact ⟨hp.1, hp.2.1⟩
      · exact ⟨by decide, by decide⟩
    have p2 : (recS kind k stan amount).ns.ok = true := by
      unfold recS
      simp only
      split
      · exact nz_ok (by omega) (by omega) (by omega) (by omega)
      · split
        · exact nz_ok (by omega) (by omega) (by omega) (by omega)
        · decide
    have p3 : (recS kind k stan amount).rs.ok = true := by
      unfold recS
      simp only
      split
      · exact nz_ok (by omega) (by omega) (by omega) (by omega)
      · decide
    have p4 : (recS kind k stan amount).ls.ok = true := by
      unfold recS
      simp only
      split
      · exact nz_ok (by omega) (by omega) (by omega) (by omega)
      · decide
    have k1 : (recS kind k stan amount).kind = (kind % 9 + 1 : Nat) := rfl
    have k2 : (recS kind k stan amount).am = (amount % 5000 : Nat) := rfl
    simp only [RZ.right, p1.2, p2, p3, p4, k1, k2, Bool.and_true, Bool.and_eq_true, decide_eq_true_eq]
    omega
  · show (0 : Int) ≤ ((k % 3 : Nat) : Int)
    omega
  · show ((k % 3 : Nat) : Int) ≤ 65535
    omega
  · show (0 : Int) ≤ ((stan % 4 + 1 : Nat) : Int)
    omega
  · show ((stan % 4 + 1 : Nat) : Int) ≤ 4294967295
    omega
end Go.Proofs.Ytnmbmccigpljnaa.GL

namespace Go.Proofs.Ytnmbmccigpljnaa.GL
open Go Go.RowKit
set_option maxRecDepth 10000
set_option pp.deepTerms.threshold 8
set_option pp.maxSteps 3000
set_option linter.unusedSimpArgs false
set_option linter.unusedVariables false

theorem bytesL_succ (v m : Nat) : bytesL v (m + 1) = byteAt v m :: bytesL v m := by
  unfold bytesL
  rw [List.range_succ_eq_map, List.map_cons, List.map_map]
  congr 1
  apply List.map_congr_left
  intro j _
  simp only [Function.comp]
  congr 1
  omega
theorem byteAt_nat (v i : Nat) (h : i < 8) : (byteAt v i).toNat = v / 256 ^ i % 256 := by
  unfold byteAt
  rw [if_pos h, UInt8.toNat_ofNat', Nat.pow_mul]
theorem numGo_bytes (v : Nat) : ∀ (m acc : Nat), m ≤ 8 → acc * 256 ^ m < 2 ^ 64 → numGo (bytesL v m) acc = some (acc * 256 ^ m + v % 256 ^ m)
  | 0, acc, _, _ => by simp [bytesL, numGo, Nat.mod_one]
  | m + 1, acc, hm, ha => by
    have hp : 0 < 256 ^ m := Nat.pow_pos (by decide)
    have hpow : 256 ^ (m + 1) = 256 ^ m * 256 := Nat.pow_succ ..
    rw [hpow] at ha ⊢
    have h1 : acc < 2 ^ 56 := by
      have h2 : acc * 256 ≤ acc * (256 ^ m * 256) := Nat.mul_le_mul_left _ (Nat.le_mul_of_pos_left _ hp)
      omega
    rw [bytesL_succ]
    simp only [numGo]
    rw [if_neg (by omega), byteAt_nat v m (by omega)]
    have hb : v / 256 ^ m % 256 < 256 := Nat.mod_lt _ (by decide)
    have hmod : v % (256 ^ m * 256) = v % 256 ^ m + 256 ^ m * (v / 256 ^ m % 256) := Nat.mod_mul
    have hlt : (acc * 256 + v / 256 ^ m % 256) * 256 ^ m < 2 ^ 64 := by
      have e : 2 ^ 64 = 256 ^ (m + 1) * 256 ^ (7 - m) := by
        rw [← Nat.pow_add, show m + 1 + (7 - m) = 8 by omega]
      have hq : 0 < 256 ^ (7 - m) := Nat.pow_pos (by decide)
      rw [hpow] at e
      have h3 : acc < 256 ^ (7 - m) := by
        rw [e, Nat.mul_comm] at ha
        exact Nat.lt_of_mul_lt_mul_left ha
      calc (acc * 256 + v / 256 ^ m % 256) * 256 ^ m < (acc * 256 + 256) * 256 ^ m := Nat.mul_lt_mul_of_pos_right (by omega) hp
        _ = (acc + 1) * (256 ^ m * 256) := by rw [show acc * 256 + 256 = (acc + 1) * 256 by omega, Nat.mul_assoc, Nat.mul_comm 256]
        _ ≤ 256 ^ (7 - m) * (256 ^ m * 256) := Nat.mul_le_mul_right _ h3
        _ = 2 ^ 64 := by rw [e, Nat.mul_comm]
    rw [numGo_bytes v m _ (by omega) hlt, hmod, Nat.add_mul, Nat.mul_assoc acc 256, Nat.mul_comm 256 (256 ^ m), Nat.mul_comm (v / 256 ^ m % 256)]
    congr 1
    omega
theorem numB_bytes (v m : Nat) (h : m ≤ 8) : numB (bytesL v m) = some (v % 256 ^ m) := by
  have := numGo_bytes v m 0 h (by simp)
  simpa [numB] using this

theorem numN_bytes (v m : Nat) (h : m ≤ 8) (hv : v < 256 ^ m) : numN (bytesL v m) = v := by
  unfold numN
  rw [numB_bytes v m h, Nat.mod_eq_of_lt hv]; rfl
theorem mid3 {α : Type} {A B C X : List α} {i k : Nat} (e : X = A ++ (B ++ C)) (hi : A.length = i) (hk : B.length = k) : (X.drop i).take k = B := by
  subst e hi hk; simp
theorem bodyB_eq (r : RZ) : bodyB r = [kB r] ++ (bytesL r.t.toNat 2 ++ (bytesL r.s.toNat 4 ++ (bytesL r.am.toNat 4 ++ (catI r.ns.l ++ (catI r.rs.l ++ (catI r.ls.l ++ ([UInt8.ofNat r.pan.size] ++ r.pan.data.toList))))))) := by
  simp [bodyB, headB, catN, List.append_assoc]
theorem catI_l (x : NZ) : catI x.l = bytesL x.a.toNat 2 ++ (bytesL x.b.toNat 2 ++ (bytesL x.c.toNat 2 ++ bytesL x.d.toNat 2)) := by
  simp [catI, NZ.l]
theorem catI_8 (x : NZ) : (catI x.l).length = 8 := by rw [catI_len]; rfl
theorem nzAt_cat (x : NZ) (h : x.ok = true) (rest : List UInt8) : nzAt (catI x.l ++ rest) = x := by
  have ha := inC_of h (z := x.a) (by simp [NZ.l])
  have hb := inC_of h (z := x.b) (by simp [NZ.l])
  have hc := inC_of h (z := x.c) (by simp [NZ.l])
  have hd := inC_of h (z := x.d) (by simp [NZ.l])
  rw [catI_l]
  have e0 : ((bytesL x.a.toNat 2 ++ (bytesL x.b.toNat 2 ++ (bytesL x.c.toNat 2 ++ bytesL x.d.toNat 2)) ++ rest)).take 2 = bytesL x.a.toNat 2 := by
    have := mid3 (A := []) (B := bytesL x.a.toNat 2) (C := (bytesL x.b.toNat 2 ++ (bytesL x.c.toNat 2 ++ bytesL x.d.toNat 2)) ++ rest) (i := 0) (k := 2) (X := (bytesL x.a.toNat 2 ++ (bytesL x.b.toNat 2 ++ (bytesL x.c.toNat 2 ++ bytesL x.d.toNat 2)) ++ rest)) (by simp) rfl (bytesL_len _ _)
    simpa using this
  have e1 := mid3 (A := bytesL x.a.toNat 2) (B := bytesL x.b.toNat 2) (C := (bytesL x.c.toNat 2 ++ bytesL x.d.toNat 2) ++ rest) (i := 2) (k := 2) (X := (bytesL x.a.toNat 2 ++ (bytesL x.b.toNat 2 ++ (bytesL x.c.toNat 2 ++ bytesL x.d.toNat 2)) ++ rest)) (by simp) (bytesL_len _ _) (bytesL_len _ _)
  have e2 := mid3 (A := bytesL x.a.toNat 2 ++ bytesL x.b.toNat 2) (B := bytesL x.c.toNat 2) (C := bytesL x.d.toNat 2 ++ rest) (i := 4) (k := 2) (X := (bytesL x.a.toNat 2 ++ (bytesL x.b.toNat 2 ++ (bytesL x.c.toNat 2 ++ bytesL x.d.toNat 2)) ++ rest)) (by simp) (by simp [bytesL_len]) (bytesL_len _ _)
  have e3 := mid3 (A := bytesL x.a.toNat 2 ++ bytesL x.b.toNat 2 ++ bytesL x.c.toNat 2) (B := bytesL x.d.toNat 2) (C := rest) (i := 6) (k := 2) (X := (bytesL x.a.toNat 2 ++ (bytesL x.b.toNat 2 ++ (bytesL x.c.toNat 2 ++ bytesL x.d.toNat 2)) ++ rest)) (by simp) (by simp [bytesL_len]) (bytesL_len _ _)
  unfold nzAt
  rw [e0, e1, e2, e3, numN_bytes _ 2 (by decide) (by omega), numN_bytes _ 2 (by decide) (by omega), numN_bytes _ 2 (by decide) (by omega), numN_bytes _ 2 (by decide) (by omega)]
  obtain ⟨a, b, c, d⟩ := x
  simp only at ha hb hc hd ⊢
  rw [Int.toNat_of_nonneg ha.1, Int.toNat_of_nonneg hb.1, Int.toNat_of_nonneg hc.1, Int.toNat_of_nonneg hd.1]
theorem drop_at {α : Type} {A C X : List α} {i : Nat} (e : X = A ++ C) (hi : A.length = i) : X.drop i = C := by subst e hi; simp
theorem recOf_body (r : RZ) (hr : r.right = true) (hw : r.wf) : recOf (bodyB r) = r ∧ numN (((bodyB r).drop 35).take 1) = r.pan.size := by
  obtain ⟨⟨t1, t2⟩, ⟨s1', s2'⟩⟩ := hw
  have hrr := hr
  simp only [RZ.right, Bool.and_eq_true, decide_eq_true_eq] at hrr
  obtain ⟨⟨⟨⟨⟨⟨⟨⟨k1, k2⟩, k3⟩, k4⟩, k5⟩, k6⟩, k7⟩, k8⟩, k9⟩ := hrr
  have he := bodyB_eq r
  have l2 := bytesL_len r.t.toNat 2
  have l4 := bytesL_len r.s.toNat 4
  have l4' := bytesL_len r.am.toNat 4
  have c1 := catI_8 r.ns
  have c2 := catI_8 r.rs
  have c3 := catI_8 r.ls
  generalize hkB : kB r = kb at *
  have hkb : (kb.toNat : Int) = r.kind := by
    rw [← hkB]; unfold kB; rw [UInt8.toNat_ofNat']; omega
  have e0 : (bodyB r).take 1 = [kb] := by rw [he]; rfl
  have e1 := mid3 (i := 1) (k := 2) (A := [kb]) he rfl l2
  have e2 := mid3 (i := 3) (k := 4) (A := [kb] ++ bytesL r.t.toNat 2) (B := bytesL r.s.toNat 4) (X := bodyB r) (by rw [he, List.append_assoc]) (by simp [l2]) l4
  have e3 := mid3 (i := 7) (k := 4) (A := [kb] ++ bytesL r.t.toNat 2 ++ bytesL r.s.toNat 4) (B := bytesL r.am.toNat 4) (X := bodyB r) (by rw [he]; simp only [List.append_assoc] <;> rfl) (by simp [l2, l4]) l4'
  have e4 := drop_at (i := 11) (A := [kb] ++ bytesL r.t.toNat 2 ++ bytesL r.s.toNat 4 ++ bytesL r.am.toNat 4) (X := bodyB r) (by rw [he]; simp only [List.append_assoc] <;> rfl) (by simp [l2, l4, l4'])
  have e5 := drop_at (i := 19) (A := [kb] ++ bytesL r.t.toNat 2 ++ bytesL r.s.toNat 4 ++ bytesL r.am.toNat 4 ++ catI r.ns.l) (X := bodyB r) (by rw [he]; simp only [List.append_assoc] <;> rfl) (by simp [l2, l4, l4', c1])
  have e6 := drop_at (i := 27) (A := [kb] ++ bytesL r.t.toNat 2 ++ bytesL r.s.toNat 4 ++ bytesL r.am.toNat 4 ++ catI r.ns.l ++ catI r.rs.l) (X := bodyB r) (by rw [he]; simp only [List.append_assoc] <;> rfl) (by simp [l2, l4, l4', c1, c2])
  have e7 := mid3 (i := 35) (k := 1) (A := [kb] ++ bytesL r.t.toNat 2 ++ bytesL r.s.toNat 4 ++ bytesL r.am.toNat 4 ++ catI r.ns.l ++ catI r.rs.l ++ catI r.ls.l) (B := [UInt8.ofNat r.pan.size]) (X := bodyB r) (by rw [he]; simp only [List.append_assoc] <;> rfl) (by simp [l2, l4, l4', c1, c2, c3]) rfl
  have e8 := drop_at (i := 36) (A := [kb] ++ bytesL r.t.toNat 2 ++ bytesL r.s.toNat 4 ++ bytesL r.am.toNat 4 ++ catI r.ns.l ++ catI r.rs.l ++ catI r.ls.l ++ [UInt8.ofNat r.pan.size]) (C := r.pan.data.toList) (X := bodyB r) (by rw [he]; simp only [List.append_assoc] <;> rfl) (by simp [l2, l4, l4', c1, c2, c3])
  refine ⟨?_, ?_⟩
  · unfold recOf
    rw [e0, e1, e2, e3, e4, e5, e6, e8, numN_one, nzAt_cat r.ns k7, nzAt_cat r.rs k8, nzAt_cat r.ls k9, numN_bytes _ 2 (by decide) (by omega), numN_bytes _ 4 (by decide) (by omega), numN_bytes _ 4 (by decide) (by omega), mkS_of, hkb, Int.toNat_of_nonneg t1, Int.toNat_of_nonneg s1', Int.toNat_of_nonneg k5]
  · rw [e7, numN_one, UInt8.toNat_ofNat']; omega
/-- What is written is read, whatever stands behind. -/
theorem read_put (r : RZ) (hr : r.right = true) (hw : r.wf) (more : List UInt8) : readZ (putB r ++ more) = (r, (putB r).length, 0) := by
  obtain ⟨h1, h2⟩ := recOf_body r hr hw
  have hbl := bodyB_len r
  have hp : r.pan.size ≤ 19 := by
    simp only [RZ.right, Bool.and_eq_true, decide_eq_true_eq] at hr
    exact hr.1.1.1.1.1.1.2
  have hpl : (putB r).length = 6 + (bodyB r).length := by simp [putB, bytesL_len]; omega
  have e : putB r ++ more = 165 :: UInt8.ofNat (bodyB r).length :: (bodyB r ++ (bytesL (crcN (bodyB r)) 4 ++ more)) := by simp [putB, List.append_assoc]
  have hn : (UInt8.ofNat (bodyB r).length).toNat = (bodyB r).length := by rw [UInt8.toNat_ofNat']; omega
  have hx : bodyOf (165 :: UInt8.ofNat (bodyB r).length :: (bodyB r ++ (bytesL (crcN (bodyB r)) 4 ++ more))) (bodyB r).length = bodyB r := by
    unfold bodyOf; simp
  have hc : ((165 :: UInt8.ofNat (bodyB r).length :: (bodyB r ++ (bytesL (crcN (bodyB r)) 4 ++ more))).drop (2 + (bodyB r).length)).take 4 = bytesL (crcN (bodyB r)) 4 :=
    mid3 (A := 165 :: UInt8.ofNat (bodyB r).length :: bodyB r) (C := more) (by simp) (by simp; omega) (bytesL_len _ _)
  have hlen : (165 :: UInt8.ofNat (bodyB r).length :: (bodyB r ++ (bytesL (crcN (bodyB r)) 4 ++ more))).length = 6 + (bodyB r).length + more.length := by simp [bytesL_len]; omega
  rw [e]
  unfold readZ
  simp only [hn, hx, hc, hlen, h1, h2, numN_bytes _ 4 (by decide) (crcN_lt (bodyB r))]
  rw [if_neg (by
    have : (165 : UInt8).toNat = 165 := rfl
    omega), if_neg (by simp [hr]; omega), if_neg (by simp), hpl]
end Go.Proofs.Ytnmbmccigpljnaa.GL
