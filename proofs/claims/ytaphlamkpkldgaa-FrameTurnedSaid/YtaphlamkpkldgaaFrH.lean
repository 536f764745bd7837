/- Layer 4: the document's Put. -/
import Derived.Test.YtaphlamkpkldgaaFrG
namespace Go.Proofs.Ytaphlamkpkldgaa.GL
open Go Go.RowKit
set_option maxRecDepth 10000
set_option pp.deepTerms.threshold 8
set_option pp.maxSteps 3000
set_option linter.unusedSimpArgs false
set_option linter.unusedVariables false

/-- A list of bytes in an object's memory. -/
def LB (R : Heap) (v : Value) (bs : List UInt8) : Prop := LstR R v 1 bs.length (bs.map u8V)
theorem one_bytes (bs : List UInt8) : (bs.map u8V).all (·.oneCell') = true := List.all_eq_true.2 fun v hv => by
  obtain ⟨c', _, rfl⟩ := List.mem_map.1 hv
  rfl
theorem LB.sv {R H : Heap} {v : Value} {bs : List UInt8} (h : LB R v bs) (hl : Heap.le R H) : SVa H v bs := by
  obtain ⟨a, c, e, hs, _⟩ := LstR.sl h hl
  exact ⟨a, _, c, e, hs⟩
/-- Bytes appended. -/
theorem app_b {F R0 G R : Heap} {K : Kont} {v x : Value} {bs ys : List UInt8} (h : LB R v bs) (ow : Own F R0 G R) (hx : SVa G x ys) (hb : bs.length + ys.length ≤ 100000000)
    (hK : ∀ v' H' R', Own F R0 H' R' → LB R' v' (bs ++ ys) → (∀ i o, R i = some o → blkV v ≠ some i → R' i = some o ∧ blkV v' ≠ some i) → K v' H') : eApp Try.prog 30 30 v x G K := by
  obtain ⟨a, n, c, rfl, hs⟩ := hx
  have hn : ys.length = n := by simpa using hs.len
  refine LstR.app (H0 := F) (B0 := R0) (e := 5) (s := 1) (nbs := 1) (z := .int .u8 0) (m := n) (ys := ys.map u8V) (by simp [facts]) (by simp [facts]) (by simp [facts]) (by simp [facts]) rfl (by decide) h ow
    (src_sl (e1 := 5) (z := .int .u8 0) (by simp [facts]) (by simp [facts]) (by simp [facts]) hs) (by simp [hn]) (one_bytes ys) (by omega) ?_
  intro v' H' R' ow' hl' hk _
  exact hK v' H' R' ow' (by unfold LB; rw [List.length_append, List.map_append, hn]; exact hl') hk
/-- A string appended. -/
theorem app_s {F R0 G R : Heap} {K : Kont} {v : Value} {x : ByteArray} {bs : List UInt8} (h : LB R v bs) (ow : Own F R0 G R) (hb : bs.length + x.size ≤ 100000000)
    (hK : ∀ v' H' R', Own F R0 H' R' → LB R' v' (bs ++ x.data.toList) → (∀ i o, R i = some o → blkV v ≠ some i → R' i = some o ∧ blkV v' ≠ some i) → K v' H') : eApp Try.prog 30 9 v (.string x) G K := by
  refine LstR.app (H0 := F) (B0 := R0) (e := 5) (s := 1) (nbs := 1) (z := .int .u8 0) (m := x.size) (ys := x.data.toList.map u8V) (by simp [facts]) (by simp [facts]) (by simp [facts]) (by simp [facts]) rfl (by decide) h ow
    (src_str (z := .int .u8 0) (by simp [facts]) (by simp [facts]) (by simp [facts])) (by simp) (one_bytes _) (by omega) ?_
  intro v' H' R' ow' hl' hk _
  refine hK v' H' R' ow' ?_ hk
  unfold LB
  rw [List.length_append, List.map_append, Array.length_toList]
  exact hl'
theorem Own.one {H G : Heap} (hl : Heap.le H G) {b : Nat} {o : GObj} (hb : H b = none) (hr : G b = some o) : Own H (fun _ => none) G (upd (fun _ => none) b o) :=
  ⟨fun i x _ hi => ⟨by rw [upd_ne _ _ (ne_of_fresh hb hi)], hl _ _ hi⟩, fun i x hi => by
    by_cases hib : i = b
    · subst hib; rw [upd_same] at hi; cases hi; exact hr
    · rw [upd_ne _ _ hib] at hi; cases hi⟩
theorem LB.one {b : Nat} {bs : List UInt8} {cs : List Value} (e : cs = bs.map u8V) : LB (upd (fun _ => none) b (.row true 0 cs 0)) (.slice (some ⟨b, 0, none⟩) bs.length bs.length) bs :=
  .inr ⟨b, 0, _, [], 0, rfl, by rw [upd_same, e]; simp, by simp, Nat.le_refl _, by simp⟩
theorem sizeZ_2 : sizeZ 2 = 2 := by decide
theorem sizeZ_4 : sizeZ 4 = 4 := by decide
attribute [simp] sizeZ_2 sizeZ_4
def bd1Inv (F R0 : Heap) (b1 bn : Nat) (r : RZ) (st : St) : Prop :=
  ∃ (k : Nat) (R : Heap), k ≤ 3 ∧ st.env 1 = .pointer (some ⟨b1, 0, none⟩) ∧ st.env 4 = .slice (some ⟨bn, 0, none⟩) 3 3 ∧ st.env 5 = .int .i64 k ∧ Own F R0 st.heap R ∧ LB R (st.env 3) (headB r ++ catN ([r.ns, r.rs, r.ls].take k))
def bd2Inv (F R0 : Heap) (b1 bn k : Nat) (r : RZ) (x : NZ) (st : St) : Prop :=
  ∃ (m : Nat) (R : Heap), m ≤ 4 ∧ st.env 1 = .pointer (some ⟨b1, 0, none⟩) ∧ st.env 4 = .slice (some ⟨bn, 0, none⟩) 3 3 ∧ st.env 5 = .int .i64 k ∧ st.env 6 = .int .i64 m ∧ Own F R0 st.heap R ∧ LB R (st.env 3) (headB r ++ catN ([r.ns, r.rs, r.ls].take k) ++ catI (x.l.take m))
def ResB (H H' : Heap) (v : Value) (bs : List UInt8) : Prop := ∃ R, Own H (fun _ => none) H' R ∧ LB R v bs
set_option maxHeartbeats 4000000 in
theorem rbody_c (r : RZ) (H : Heap) (hr : r.right = true) (hw : r.wf) : ECalls Try.prog 22 #[.agg #[.int .i64 r.kind, .int .u16 r.t, .int .u32 r.s, .string r.pan, .int .i64 r.am, .int .i64 r.ns.a, .int .i64 r.ns.b, .int .i64 r.ns.c, .int .i64 r.ns.d, .int .i64 r.rs.a, .int .i64 r.rs.b, .int .i64 r.rs.c, .int .i64 r.rs.d, .int .i64 r.ls.a, .int .i64 r.ls.b, .int .i64 r.ls.c, .int .i64 r.ls.d]] H fun v H' => ResB H H' v (bodyB r) := by
  refine ecalls_of_ewp (args := [_]) Try.func22 rfl rfl rfl (by simp [Try.ntmps22]) (by kernel_rfl) ?_
  obtain ⟨⟨t1, t2⟩, ⟨s1', s2'⟩⟩ := hw
  have hrr := hr
  simp only [RZ.right, Bool.and_eq_true, decide_eq_true_eq] at hrr
  obtain ⟨⟨⟨⟨⟨⟨⟨⟨k1, k2⟩, k3⟩, k4⟩, k5⟩, k6⟩, k7⟩, k8⟩, k9⟩ := hrr
  have hkB : Value.int .u8 r.kind = u8V (kB r) := by
    unfold kB u8V
    congr 1
    rw [UInt8.toNat_ofNat']
    omega
  simp (disch := first | omega | assumption | decide | (simp <;> omega) | fail) [facts, ]
  refine fresh_intro fun b1 hb1 => ?_
  have hle1 := le_upd (.row true 0 [.int .i64 r.kind, .int .u16 r.t, .int .u32 r.s, .string r.pan, .int .i64 r.am, .int .i64 r.ns.a, .int .i64 r.ns.b, .int .i64 r.ns.c, .int .i64 r.ns.d, .int .i64 r.rs.a, .int .i64 r.rs.b, .int .i64 r.rs.c, .int .i64 r.rs.d, .int .i64 r.ls.a, .int .i64 r.ls.b, .int .i64 r.ls.c, .int .i64 r.ls.d] 0) hb1
  have hrow := upd_same H b1 (.row true 0 [.int .i64 r.kind, .int .u16 r.t, .int .u32 r.s, .string r.pan, .int .i64 r.am, .int .i64 r.ns.a, .int .i64 r.ns.b, .int .i64 r.ns.c, .int .i64 r.ns.d, .int .i64 r.rs.a, .int .i64 r.rs.b, .int .i64 r.rs.c, .int .i64 r.rs.d, .int .i64 r.ls.a, .int .i64 r.ls.b, .int .i64 r.ls.c, .int .i64 r.ls.d] 0)
  generalize upd H b1 (.row true 0 [.int .i64 r.kind, .int .u16 r.t, .int .u32 r.s, .string r.pan, .int .i64 r.am, .int .i64 r.ns.a, .int .i64 r.ns.b, .int .i64 r.ns.c, .int .i64 r.ns.d, .int .i64 r.rs.a, .int .i64 r.rs.b, .int .i64 r.rs.c, .int .i64 r.rs.d, .int .i64 r.ls.a, .int .i64 r.ls.b, .int .i64 r.ls.c, .int .i64 r.ls.d] 0) = H1 at *
  simp (disch := first | omega | assumption | decide | (simp <;> omega) | fail) [facts, hrow]
  refine w_growL (by simp [facts]) 9 [7,8,9,10,11,12,13,14,15] [.eq (.pointer (some ⟨b1, 0, none⟩)), .eq (.int .i64 r.kind), .eq (.int .u8 r.kind), .new H1 [.int .u8 r.kind] (fun b => .slice (some ⟨b, 0, none⟩) 1 1), .eq (.pointer (some ⟨b1, 1, none⟩)), .eq (.pointer (some ⟨b1, 1, none⟩)), .eq (.int .u16 r.t), .eq (.int .u64 r.t), .sva (bytesL r.t.toNat 2)] (by decide +kernel) rfl ?_ ?_
  · simp only [List.take_succ_cons, List.take_zero, allL_cons, allL_nil]
    refine ⟨?_, ?_, ?_, ?_, ?_, ?_, ?_, ?_, ?_, trivial⟩
    all_goals (unfold stepL; intro f Hx hl ha; have hx := hl _ _ hrow)
    · simp (disch := first | omega | assumption | decide | (simp <;> omega) | fail) [facts, hx]
    · simp (disch := first | omega | assumption | decide | (simp <;> omega) | fail) [facts, hx]
    · simp (disch := first | omega | assumption | decide | (simp <;> omega) | fail) [facts, hx]
    · simp (disch := first | omega | assumption | decide | (simp <;> omega) | fail) [facts, ]
      refine fresh_intro fun b hb => ?_
      simp (disch := first | omega | assumption | decide | (simp <;> omega) | fail) [facts, ]
      exact ⟨le_upd _ hb, le_of_none hl hb⟩
    · simp (disch := first | omega | assumption | decide | (simp <;> omega) | fail) [facts, hx]
    · simp (disch := first | omega | assumption | decide | (simp <;> omega) | fail) [facts, hx]
    · simp (disch := first | omega | assumption | decide | (simp <;> omega) | fail) [facts, hx]
    · simp (disch := first | omega | assumption | decide | (simp <;> omega) | fail) [facts, hx]
    · simp (disch := first | omega | assumption | decide | (simp <;> omega) | fail) [facts, ]
      have cc := put_c r.t.toNat 2 Hx (by omega) (by unfold i64In; omega)
      rw [Int.toNat_of_nonneg (by omega)] at cc
      simp only [sizeZ_2, sizeZ_4] at cc
      refine cc.mono ?_
      rintro w H' ⟨hl, hO⟩
      simp (disch := first | omega | assumption | decide | (simp <;> omega) | fail) [facts, ]
      exact ⟨hl, SVa.out hO⟩
  intro f H2 hle2 hkn
  replace hkn : (∃ b, f 10 = .slice (some ⟨b, 0, none⟩) 1 1 ∧ H1 b = none ∧ H2 b = some (.row true 0 [.int .u8 r.kind] 0)) ∧ SVa H2 (f 15) (bytesL r.t.toNat 2) := by simpa using hkn
  obtain ⟨⟨b2, f10, hb2, hr2⟩, hsv⟩ := hkn
  simp (disch := first | omega | assumption | decide | (simp <;> omega) | fail) [facts, f10]
  refine app_b (F := H1) (R0 := fun _ => none) (bs := [kB r]) (LB.one (bs := [kB r]) (cs := [.int .u8 r.kind]) (by rw [hkB]; rfl)) (Own.one hle2 hb2 hr2) hsv (by simp [bytesL_len]) ?_
  intro v3 H3 R3 ow3 hl3 _
  have hx3 := ow3.all _ _ hrow
  simp (disch := first | omega | assumption | decide | (simp <;> omega) | fail) [facts, hx3]
  have cc := put_c r.s.toNat 4 H3 (by omega) (by unfold i64In; omega)
  rw [Int.toNat_of_nonneg (by omega)] at cc
  simp only [sizeZ_2, sizeZ_4] at cc
  refine cc.mono ?_
  rintro w H4 ⟨hle4, hO⟩
  simp (disch := first | omega | assumption | decide | (simp <;> omega) | fail) [facts, ]
  refine app_b hl3 (ow3.grow hle4) (SVa.out hO) (by simp [bytesL_len]) ?_
  clear cc hx3
  intro v5 H5 R5 ow5 hl5 _
  have hx5 := ow5.all _ _ hrow
  simp (disch := first | omega | assumption | decide | (simp <;> omega) | fail) [facts, hx5]
  have cc := put_c r.am.toNat 4 H5 (by omega) (by unfold i64In; omega)
  rw [Int.toNat_of_nonneg (by omega)] at cc
  simp only [sizeZ_2, sizeZ_4] at cc
  refine cc.mono ?_
  rintro w H6 ⟨hle6, hO⟩
  simp (disch := first | omega | assumption | decide | (simp <;> omega) | fail) [facts, ]
  refine app_b hl5 (ow5.grow hle6) (SVa.out hO) (by simp [bytesL_len]) ?_
  clear cc hx5
  intro v7 H7 R7 ow7 hl7 _
  have hx7 := ow7.all _ _ hrow
  have hhd : LB R7 v7 (headB r) := by
    have : [kB r] ++ bytesL r.t.toNat 2 ++ bytesL r.s.toNat 4 ++ bytesL r.am.toNat 4 = headB r := by simp [headB]
    rwa [this] at hl7
  simp (disch := first | omega | assumption | decide | (simp <;> omega) | fail) [facts, hx7]
  refine fresh_intro fun bn hbn => ?_
  have ow8 := ow7.grow (le_upd (.row true 0 (splice (splice (splice (zeros [.int .i64 0, .int .i64 0, .int .i64 0, .int .i64 0] 3) 0 [.int .i64 r.ns.a, .int .i64 r.ns.b, .int .i64 r.ns.c, .int .i64 r.ns.d]) 4 [.int .i64 r.rs.a, .int .i64 r.rs.b, .int .i64 r.rs.c, .int .i64 r.rs.d]) 8 [.int .i64 r.ls.a, .int .i64 r.ls.b, .int .i64 r.ls.c, .int .i64 r.ls.d]) 0) hbn)
  have hrn := upd_same H7 bn (.row true 0 (splice (splice (splice (zeros [.int .i64 0, .int .i64 0, .int .i64 0, .int .i64 0] 3) 0 [.int .i64 r.ns.a, .int .i64 r.ns.b, .int .i64 r.ns.c, .int .i64 r.ns.d]) 4 [.int .i64 r.rs.a, .int .i64 r.rs.b, .int .i64 r.rs.c, .int .i64 r.rs.d]) 8 [.int .i64 r.ls.a, .int .i64 r.ls.b, .int .i64 r.ls.c, .int .i64 r.ls.d]) 0)
  simp (disch := first | omega | assumption | decide | (simp <;> omega) | fail) [facts, ]
  generalize upd H7 bn (.row true 0 (splice (splice (splice (zeros [.int .i64 0, .int .i64 0, .int .i64 0, .int .i64 0] 3) 0 [.int .i64 r.ns.a, .int .i64 r.ns.b, .int .i64 r.ns.c, .int .i64 r.ns.d]) 4 [.int .i64 r.rs.a, .int .i64 r.rs.b, .int .i64 r.rs.c, .int .i64 r.rs.d]) 8 [.int .i64 r.ls.a, .int .i64 r.ls.b, .int .i64 r.ls.c, .int .i64 r.ls.d]) 0) = H8 at *
  rw [notes3] at hrn
  have hbnR : R7 bn = none := le_of_none ow7.le hbn
  have hR7 := (ow7.mv _ _ rfl hrow).1
  have hrow8 := ow8.all _ _ hrow
  have owF : Own H (fun _ => none) H8 R7 := Own.since hle1 ow8
  have hRF := ow8.le
  refine w_loop (bd1Inv H8 R7 b1 bn r) (fun st => 3 - (intOf (st.env 5)).toNat) ?_ ?_
  · exact ⟨0, R7, by decide, by simp, by simp, by simp, Own.refl hRF, by simpa [catN] using hhd⟩
  rintro ⟨env, G⟩ ⟨k, R, hk, e1, e4, e5, ow, hls⟩
  simp only at e1 e4 e5 ow hls
  have hnsok : ∀ x ∈ [r.ns, r.rs, r.ls], x.ok = true := fun x hx => by
    simp only [List.mem_cons, List.not_mem_nil, or_false] at hx
    rcases hx with rfl | rfl | rfl <;> assumption
  by_cases hlt : k < 3
  · have hltI : (k : Int) < 3 := by omega
    obtain ⟨x, hx⟩ : ∃ x, [r.ns, r.rs, r.ls][k]? = some x := ⟨_, List.getElem?_eq_getElem (by simpa using hlt)⟩
    have hxok := hnsok x (List.mem_of_getElem? hx)
    simp (disch := first | omega | assumption | decide | (simp <;> omega) | fail) [facts, e1, e4, e5, hltI]
    refine w_loop (bd2Inv H8 R7 b1 bn k r x) (fun st => 4 - (intOf (st.env 6)).toNat) ?_ ?_
    · exact ⟨0, R, by decide, by simp [e1], by simp [e4], by simp [e5], by simp, ow, by simpa [catI] using hls⟩
    clear e1 e4 e5 ow hls
    rintro ⟨env2, G2⟩ ⟨m, R', hm, e1, e4, e5, e6, ow, hls⟩
    simp only at e1 e4 e5 e6 ow hls
    by_cases hm4 : m < 4
    · have hm4I : (m : Int) < 4 := by omega
      obtain ⟨z, hz⟩ : ∃ z, x.l[m]? = some z := ⟨_, List.getElem?_eq_getElem (by simpa [NZ.l] using hm4)⟩
      have rz := x.at hz
      have hzb := inC_of hxok (List.mem_of_getElem? hz)
      have hrnG := (ow.mv _ _ hbnR hrn).2
      have hslG : SlA G2 (some ⟨bn, 0, none⟩) 3 4 (rowsC NZ.cells [r.ns, r.rs, r.ls]) := SlA.row hrnG (Nat.le_refl _) rfl (by simp [rowsC, NZ.cells]) (by simp [rowsC, NZ.cells])
      have rx : rd1U (G2 bn) (0 + k * 4 + m) = some (.int .i64 z) := by rw [hslG.el1 n4 hx (j := m) hm4]; exact rz
      rw [Nat.zero_add] at rx
      generalize e3 : env2 3 = sv2 at hls
      have cc := put_c z.toNat 2 G2 (by omega) (by unfold i64In; omega)
      rw [Int.toNat_of_nonneg (by omega)] at cc
      simp only [sizeZ_2, sizeZ_4] at cc
      simp (disch := first | omega | assumption | decide | (simp <;> omega) | fail) [facts, e1, e4, e5, e6, e3, hltI, hm4I, rx]
      refine cc.mono ?_
      rintro w G3 ⟨hl3, hO⟩
      simp (disch := first | omega | assumption | decide | (simp <;> omega) | fail) [facts, e3]
      refine app_b hls (ow.grow hl3) (SVa.out hO) ?_ ?_
      · simp only [List.length_append, headB_len, catN_len, catI_len, List.length_take, bytesL_len]
        simp [NZ.l]; omega
      intro v' H' R'' ow' hl' _
      simp (disch := first | omega | assumption | decide | (simp <;> omega) | fail) [facts, e6]
      refine ⟨_, Heap.le_refl _, ⟨m + 1, R'', by omega, by simp [e1], by simp [e4], by simp [e5], by simp, ow', ?_⟩, by simp [intOf, e6]; omega⟩
      rw [catI_step hz, ← List.append_assoc]
      simpa using hl'
    · have hm44 : m = 4 := by omega
      subst hm44
      simp (disch := first | omega | assumption | decide | (simp <;> omega) | fail) [facts, e1, e4, e5, e6]
      refine ⟨_, Heap.le_refl _, ⟨k + 1, R', by omega, by simp [e1], by simp [e4], by simp, ow, ?_⟩, by simp [intOf, e5]; omega⟩
      rw [catN_step hx, ← List.append_assoc]
      rw [show x.l.take 4 = x.l from rfl] at hls
      simpa using hls
  have hk3 : k = 3 := by omega
  subst hk3
  have etk : [r.ns, r.rs, r.ls].take 3 = [r.ns, r.rs, r.ls] := rfl
  rw [etk] at hls
  generalize e3 : env 3 = sv at hls
  have hrowG := (ow.mv _ _ hR7 hrow8).2
  simp (disch := first | omega | assumption | decide | (simp <;> omega) | fail) [facts, e1, e4, e5, e3]
  have hpanb : IntKind.wrap .u8 (r.pan.size : Int) = (r.pan.size : Int) := wr_u8 (by omega) (by omega)
  have hpanB : Value.int .u8 (r.pan.size : Int) = u8V (UInt8.ofNat r.pan.size) := by
    unfold u8V
    congr 1
    rw [UInt8.toNat_ofNat']
    omega
  refine w_plan (by simp [facts]) (opsP [0,1,7] (.both (opsP [2,3,4] (.both (opsP [5] (.both (opsP [6,8,9,10] .done) (opsP [8,6,9,10] .done))) (opsP [8,5,6,9,10] .done))) (opsP [8,2,3,4,5,6,9,10] .done))) (by decide +kernel) ?_
  simp (disch := first | omega | assumption | decide | (simp <;> omega) | fail) [facts, e1, e3, hrowG]
  repeat' apply And.intro
  all_goals
    refine fresh_intro fun b hb => ?_
    have hrow5 := upd_other (o := .row true 0 [.int .u8 (r.pan.size : Int)] 0) hb hrowG
    have hsv : SVa (upd G b (.row true 0 [.int .u8 (r.pan.size : Int)] 0)) (.slice (some ⟨b, 0, none⟩) 1 1) [UInt8.ofNat r.pan.size] := ⟨_, 1, 1, rfl, SlA.row (upd_same _ _ _) (Nat.le_refl _) rfl (by simp) (by simp only [List.map_cons, List.map_nil, ← hpanB]; rfl)⟩
    simp (disch := first | omega | assumption | decide | (simp <;> omega) | fail) [facts, e1, e3, hrow5]
    repeat' apply And.intro
  all_goals
    refine app_b hls (ow.grow (le_upd _ (by assumption))) hsv ?_ ?_
    · simp only [List.length_append, headB_len, catN_len, List.length_cons, List.length_nil]
      omega
    intro v' H' R' ow' hl' _
    have hrow6 := (ow'.mv _ _ hR7 hrow8).2
    simp (disch := first | omega | assumption | decide | (simp <;> omega) | fail) [facts, hrow6]
    refine app_s hl' ow' ?_ ?_
    · simp only [List.length_append, headB_len, catN_len, List.length_cons, List.length_nil]
      omega
    intro v2 H2' R2' ow2 hl2 _
    simp (disch := first | omega | assumption | decide | (simp <;> omega) | fail) [facts, ]
    exact ⟨_, Heap.le_refl _, R2', owF.trans ow2, by unfold bodyB; exact hl2⟩
set_option maxHeartbeats 4000000 in
theorem rput_c (r : RZ) (H : Heap) (hr : r.right = true) (hw : r.wf) : ECalls Try.prog 11 #[.agg #[.int .i64 r.kind, .int .u16 r.t, .int .u32 r.s, .string r.pan, .int .i64 r.am, .int .i64 r.ns.a, .int .i64 r.ns.b, .int .i64 r.ns.c, .int .i64 r.ns.d, .int .i64 r.rs.a, .int .i64 r.rs.b, .int .i64 r.rs.c, .int .i64 r.rs.d, .int .i64 r.ls.a, .int .i64 r.ls.b, .int .i64 r.ls.c, .int .i64 r.ls.d]] H fun v H' => ∃ sv, v = .tuple #[sv, .int .i64 0] ∧ ResB H H' sv (putB r) := by
  refine ecalls_of_ewp (args := [_]) Try.func11 rfl rfl rfl (by simp [Try.ntmps11]) (by kernel_rfl) ?_
  have hrr := hr
  simp only [RZ.right, Bool.and_eq_true, decide_eq_true_eq] at hrr
  obtain ⟨⟨⟨⟨⟨⟨⟨⟨k1, k2⟩, k3⟩, k4⟩, k5⟩, k6⟩, k7⟩, k8⟩, k9⟩ := hrr
  simp (disch := first | omega | assumption | decide | (simp <;> omega) | fail) [facts, ]
  refine fresh_intro fun b1 hb1 => ?_
  have hle1 := le_upd (.row true 0 [.int .i64 r.kind, .int .u16 r.t, .int .u32 r.s, .string r.pan, .int .i64 r.am, .int .i64 r.ns.a, .int .i64 r.ns.b, .int .i64 r.ns.c, .int .i64 r.ns.d, .int .i64 r.rs.a, .int .i64 r.rs.b, .int .i64 r.rs.c, .int .i64 r.rs.d, .int .i64 r.ls.a, .int .i64 r.ls.b, .int .i64 r.ls.c, .int .i64 r.ls.d] 0) hb1
  have hrow := upd_same H b1 (.row true 0 [.int .i64 r.kind, .int .u16 r.t, .int .u32 r.s, .string r.pan, .int .i64 r.am, .int .i64 r.ns.a, .int .i64 r.ns.b, .int .i64 r.ns.c, .int .i64 r.ns.d, .int .i64 r.rs.a, .int .i64 r.rs.b, .int .i64 r.rs.c, .int .i64 r.rs.d, .int .i64 r.ls.a, .int .i64 r.ls.b, .int .i64 r.ls.c, .int .i64 r.ls.d] 0)
  generalize upd H b1 (.row true 0 [.int .i64 r.kind, .int .u16 r.t, .int .u32 r.s, .string r.pan, .int .i64 r.am, .int .i64 r.ns.a, .int .i64 r.ns.b, .int .i64 r.ns.c, .int .i64 r.ns.d, .int .i64 r.rs.a, .int .i64 r.rs.b, .int .i64 r.rs.c, .int .i64 r.rs.d, .int .i64 r.ls.a, .int .i64 r.ls.b, .int .i64 r.ls.c, .int .i64 r.ls.d] 0) = H1 at *
  simp (disch := first | omega | assumption | decide | (simp <;> omega) | fail) [facts, hrow]
  refine (rightR_c r H1 (by omega)).mono ?_
  rintro v H2 ⟨rfl, hle2⟩
  have hrow2 := hle2 _ _ hrow
  rw [hr]
  simp (disch := first | omega | assumption | decide | (simp <;> omega) | fail) [facts, hrow2]
  refine (rbody_c r H2 hr hw).mono ?_
  rintro v H3 ⟨R3, ow3, hl3⟩
  simp (disch := first | omega | assumption | decide | (simp <;> omega) | fail) [facts, ]
  have hbl := bodyB_len r
  have hwb : IntKind.wrap .u8 ((bodyB r).length : Int) = ((bodyB r).length : Int) := wr_u8 (by omega) (by omega)
  have hlenB : Value.int .u8 ((bodyB r).length : Int) = u8V (UInt8.ofNat (bodyB r).length) := by
    unfold u8V
    congr 1
    rw [UInt8.toNat_ofNat']
    omega
  obtain ⟨a3, n3, c3, rfl, hs3⟩ := hl3.sv ow3.le
  have hn3 : (bodyB r).length = n3 := by simpa using hs3.len
  subst hn3
  simp (disch := first | omega | assumption | decide | (simp <;> omega) | fail) [facts, hwb]
  refine fresh_intro fun b hb => ?_
  have hlb := le_upd (.row true 0 [.int .u8 165, .int .u8 ((bodyB r).length : Int)] 0) hb
  have hbr := upd_same H3 b (.row true 0 [.int .u8 165, .int .u8 ((bodyB r).length : Int)] 0)
  generalize upd H3 b (.row true 0 [.int .u8 165, .int .u8 ((bodyB r).length : Int)] 0) = H4 at *
  simp (disch := first | omega | assumption | decide | (simp <;> omega) | fail) [facts, ]
  refine app_b (F := H3) (R0 := fun _ => none) (bs := [165, UInt8.ofNat (bodyB r).length]) (ys := bodyB r) (LB.one (bs := [165, UInt8.ofNat (bodyB r).length]) (cs := [.int .u8 165, .int .u8 ((bodyB r).length : Int)]) (by rw [hlenB]; rfl)) (Own.one hlb hb hbr) ⟨_, _, _, rfl, hs3.le hlb⟩ (by simp; omega) ?_
  intro v5 H5 R5 ow5 hl5 _
  simp (disch := first | omega | assumption | decide | (simp <;> omega) | fail) [facts, ]
  refine (crc_c a3 _ c3 (bodyB r) H5 (hs3.le ow5.all) (by omega)).mono ?_
  rintro v H6 ⟨rfl, rfl⟩
  have hcl := crcN_lt (bodyB r)
  simp (disch := first | omega | assumption | decide | (simp <;> omega) | fail) [facts, ]
  have cc := put_c (crcN (bodyB r)) 4 H6 (by omega) (by unfold i64In; omega)
  simp only [sizeZ_2, sizeZ_4] at cc
  refine cc.mono ?_
  rintro w H7 ⟨hle7, hO⟩
  simp (disch := first | omega | assumption | decide | (simp <;> omega) | fail) [facts, ]
  refine app_b hl5 (ow5.grow hle7) (SVa.out hO) (by simp [bytesL_len]; omega) ?_
  intro v8 H8 R8 ow8 hl8 _
  simp (disch := first | omega | assumption | decide | (simp <;> omega) | fail) [facts, ]
  exact ⟨_, Heap.le_refl _, R8, Own.since (Heap.le_trans hle1 (Heap.le_trans hle2 ow3.all)) ow8, by unfold putB; exact hl8⟩
theorem rput_no (r : RZ) (H : Heap) (hr : r.right = false) (hp : r.pan.size ≤ 140737488351232) : ECalls Try.prog 11 #[.agg #[.int .i64 r.kind, .int .u16 r.t, .int .u32 r.s, .string r.pan, .int .i64 r.am, .int .i64 r.ns.a, .int .i64 r.ns.b, .int .i64 r.ns.c, .int .i64 r.ns.d, .int .i64 r.rs.a, .int .i64 r.rs.b, .int .i64 r.rs.c, .int .i64 r.rs.d, .int .i64 r.ls.a, .int .i64 r.ls.b, .int .i64 r.ls.c, .int .i64 r.ls.d]] H fun v H' => v = .tuple #[.slice none 0 0, .int .i64 27] ∧ Heap.le H H' := by
  refine ecalls_of_ewp (args := [_]) Try.func11 rfl rfl rfl (by simp [Try.ntmps11]) (by kernel_rfl) ?_
  simp (disch := first | omega | assumption | decide | (simp <;> omega) | fail) [facts, ]
  refine fresh_intro fun b1 hb1 => ?_
  have hle1 := le_upd (.row true 0 [.int .i64 r.kind, .int .u16 r.t, .int .u32 r.s, .string r.pan, .int .i64 r.am, .int .i64 r.ns.a, .int .i64 r.ns.b, .int .i64 r.ns.c, .int .i64 r.ns.d, .int .i64 r.rs.a, .int .i64 r.rs.b, .int .i64 r.rs.c, .int .i64 r.rs.d, .int .i64 r.ls.a, .int .i64 r.ls.b, .int .i64 r.ls.c, .int .i64 r.ls.d] 0) hb1
  have hrow := upd_same H b1 (.row true 0 [.int .i64 r.kind, .int .u16 r.t, .int .u32 r.s, .string r.pan, .int .i64 r.am, .int .i64 r.ns.a, .int .i64 r.ns.b, .int .i64 r.ns.c, .int .i64 r.ns.d, .int .i64 r.rs.a, .int .i64 r.rs.b, .int .i64 r.rs.c, .int .i64 r.rs.d, .int .i64 r.ls.a, .int .i64 r.ls.b, .int .i64 r.ls.c, .int .i64 r.ls.d] 0)
  generalize upd H b1 (.row true 0 [.int .i64 r.kind, .int .u16 r.t, .int .u32 r.s, .string r.pan, .int .i64 r.am, .int .i64 r.ns.a, .int .i64 r.ns.b, .int .i64 r.ns.c, .int .i64 r.ns.d, .int .i64 r.rs.a, .int .i64 r.rs.b, .int .i64 r.rs.c, .int .i64 r.rs.d, .int .i64 r.ls.a, .int .i64 r.ls.b, .int .i64 r.ls.c, .int .i64 r.ls.d] 0) = H0 at *
  simp (disch := first | omega | assumption | decide | (simp <;> omega) | fail) [facts, hrow]
  refine (rightR_c r H0 hp).mono ?_
  rintro v H1 ⟨rfl, hle2⟩
  rw [hr]
  simp (disch := first | omega | assumption | decide | (simp <;> omega) | fail) [facts, ]
  exact ⟨_, Heap.le_refl _, Heap.le_trans hle1 hle2⟩
end Go.Proofs.Ytaphlamkpkldgaa.GL
