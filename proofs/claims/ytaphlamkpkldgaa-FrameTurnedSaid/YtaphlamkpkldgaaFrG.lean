/- Layer 4: Put. -/
import Derived.Test.YtaphlamkpkldgaaFrF
import Derived.Test.YtaphlamkpkldgaaGlO
namespace Go.Proofs.Ytaphlamkpkldgaa.GL
open Go Go.RowKit
set_option maxRecDepth 10000
set_option pp.deepTerms.threshold 8
set_option pp.maxSteps 3000
set_option linter.unusedSimpArgs false
set_option linter.unusedVariables false

structure RZ.wf (r : RZ) : Prop where
  t : 0 ≤ r.t ∧ r.t ≤ 65535
  s : 0 ≤ r.s ∧ r.s ≤ 4294967295
def kB (r : RZ) : UInt8 := UInt8.ofNat r.kind.toNat
def headB (r : RZ) : List UInt8 := kB r :: (bytesL r.t.toNat 2 ++ bytesL r.s.toNat 4 ++ bytesL r.am.toNat 4)
structure PC where
  b : Nat
  v1 : Value
  v2 : Value
  v3 : Value
  b4 : Nat
  v5 : Value
  v6 : Value
structure P3 (H1 : Heap) (r : RZ) (c : PC) (g : Nat → Bool) (H : Heap) : Prop where
  le : Heap.le H1 H
  k0 : g 3 = true → H c.b = some (.row true 0 [u8V (kB r)] 0)
  k1 : g 8 = true → SVa H c.v1 (bytesL r.t.toNat 2)
  k2 : g 13 = true → SVa H c.v2 (bytesL r.s.toNat 4)
  k3 : g 17 = true → SVa H c.v3 (bytesL r.am.toNat 4)
  k4 : g 18 = true → H c.b4 = some (.row true 0 [.slice (some ⟨c.b, 0, none⟩) 1 1, c.v1, c.v2, c.v3] 0)
  o18 : g 18 = true → g 3 = true ∧ g 8 = true ∧ g 13 = true ∧ g 17 = true
  o19 : g 19 = true → g 18 = true
  o20 : g 20 = true → g 19 = true
  k6 : g 20 = true → c.v6 = c.v5
  k5 : g 19 = true → ∃ R, Own H1 (fun _ => none) H R ∧ LstR R c.v5 1 (headB r).length ((headB r).map u8V)
theorem setB_ne' {g : Nat → Bool} {i j : Nat} (h : j ≠ i) (e : setB g i j = true) : g j = true := by unfold setB at e; rwa [if_neg h] at e
section
variable {H1 H H' : Heap} {r : RZ} {c : PC} {g : Nat → Bool}
theorem P3.same (h : P3 H1 r c g H) (i : Nat) (hi : i ≠ 3 ∧ i ≠ 8 ∧ i ≠ 13 ∧ i ≠ 17 ∧ i ≠ 18 ∧ i ≠ 19 ∧ i ≠ 20) : P3 H1 r c (setB g i) H := by
  obtain ⟨i1, i2, i3, i4, i5, i6, i7⟩ := hi
  refine ⟨h.le, fun e => h.k0 (setB_ne' i1.symm e), fun e => h.k1 (setB_ne' i2.symm e), fun e => h.k2 (setB_ne' i3.symm e), fun e => h.k3 (setB_ne' i4.symm e), fun e => h.k4 (setB_ne' i5.symm e), fun e => ?_, fun e => ?_, fun e => ?_, fun e => h.k6 (setB_ne' i7.symm e), fun e => h.k5 (setB_ne' i6.symm e)⟩
  · obtain ⟨a, b, c, d⟩ := h.o18 (setB_ne' i5.symm e)
    exact ⟨setB_up a, setB_up b, setB_up c, setB_up d⟩
  · exact setB_up (h.o19 (setB_ne' i6.symm e))
  · exact setB_up (h.o20 (setB_ne' i7.symm e))
theorem P3.not18 (h : P3 H1 r c g H) {i : Nat} (hi : i = 3 ∨ i = 8 ∨ i = 13 ∨ i = 17) (hg : g i = false) : g 18 = false ∧ g 19 = false := by
  have h18 : g 18 = false := by
    cases e : g 18 with
    | false => rfl
    | true =>
      obtain ⟨a, b, c, d⟩ := h.o18 e
      rcases hi with rfl | rfl | rfl | rfl <;> simp_all
  refine ⟨h18, ?_⟩
  cases e : g 19 with
  | false => rfl
  | true => rw [h.o19 e] at h18; cases h18
theorem P3.not20 (h : P3 H1 r c g H) (n19 : g 19 = false) : g 20 = false := by
  cases e : g 20 with
  | false => rfl
  | true => rw [h.o20 e] at n19; cases n19
theorem P3.build (h : P3 H1 r c g H) (hg : g 3 = false) {b : Nat} (hb : H b = none) : P3 H1 r ⟨b, c.v1, c.v2, c.v3, c.b4, c.v5, c.v6⟩ (setB g 3) (upd H b (.row true 0 [u8V (kB r)] 0)) := by
  obtain ⟨n18, n19⟩ := h.not18 (i := 3) (by simp) hg
  have hl := le_upd (.row true 0 [u8V (kB r)] 0) hb
  refine ⟨Heap.le_trans h.le hl, fun _ => upd_same _ _ _, fun e => (h.k1 (setB_ne' (by decide) e)).le hl, fun e => (h.k2 (setB_ne' (by decide) e)).le hl, fun e => (h.k3 (setB_ne' (by decide) e)).le hl, fun e => ?_, fun e => ?_, fun e => ?_, fun e => ?_, fun e => ?_, fun e => ?_⟩
  · rw [setB_ne' (i := 3) (by decide) e] at n18; cases n18
  · rw [setB_ne' (i := 3) (by decide) e] at n18; cases n18
  · rw [setB_ne' (i := 3) (by decide) e] at n19; cases n19
  · have := h.not20 n19; rw [setB_ne' (i := 3) (by decide) e] at this; cases this
  · have := h.not20 n19; rw [setB_ne' (i := 3) (by decide) e] at this; cases this
  · rw [setB_ne' (i := 3) (by decide) e] at n19; cases n19
theorem P3.by1 (h : P3 H1 r c g H) (hg : g 8 = false) (hl : Heap.le H H') {w : Value} (hO : SVa H' w (bytesL r.t.toNat 2)) : P3 H1 r ⟨c.b, w, c.v2, c.v3, c.b4, c.v5, c.v6⟩ (setB g 8) H' := by
  obtain ⟨n18, n19⟩ := h.not18 (i := 8) (by simp) hg
  refine ⟨Heap.le_trans h.le hl, fun e => hl _ _ (h.k0 (setB_ne' (by decide) e)), fun _ => hO, fun e => (h.k2 (setB_ne' (by decide) e)).le hl, fun e => (h.k3 (setB_ne' (by decide) e)).le hl, fun e => ?_, fun e => ?_, fun e => ?_, fun e => ?_, fun e => ?_, fun e => ?_⟩
  · rw [setB_ne' (i := 8) (by decide) e] at n18; cases n18
  · rw [setB_ne' (i := 8) (by decide) e] at n18; cases n18
  · rw [setB_ne' (i := 8) (by decide) e] at n19; cases n19
  · have := h.not20 n19; rw [setB_ne' (i := 8) (by decide) e] at this; cases this
  · have := h.not20 n19; rw [setB_ne' (i := 8) (by decide) e] at this; cases this
  · rw [setB_ne' (i := 8) (by decide) e] at n19; cases n19
theorem P3.by2 (h : P3 H1 r c g H) (hg : g 13 = false) (hl : Heap.le H H') {w : Value} (hO : SVa H' w (bytesL r.s.toNat 4)) : P3 H1 r ⟨c.b, c.v1, w, c.v3, c.b4, c.v5, c.v6⟩ (setB g 13) H' := by
  obtain ⟨n18, n19⟩ := h.not18 (i := 13) (by simp) hg
  refine ⟨Heap.le_trans h.le hl, fun e => hl _ _ (h.k0 (setB_ne' (by decide) e)), fun e => (h.k1 (setB_ne' (by decide) e)).le hl, fun _ => hO, fun e => (h.k3 (setB_ne' (by decide) e)).le hl, fun e => ?_, fun e => ?_, fun e => ?_, fun e => ?_, fun e => ?_, fun e => ?_⟩
  · rw [setB_ne' (i := 13) (by decide) e] at n18; cases n18
  · rw [setB_ne' (i := 13) (by decide) e] at n18; cases n18
  · rw [setB_ne' (i := 13) (by decide) e] at n19; cases n19
  · have := h.not20 n19; rw [setB_ne' (i := 13) (by decide) e] at this; cases this
  · have := h.not20 n19; rw [setB_ne' (i := 13) (by decide) e] at this; cases this
  · rw [setB_ne' (i := 13) (by decide) e] at n19; cases n19
theorem P3.by3 (h : P3 H1 r c g H) (hg : g 17 = false) (hl : Heap.le H H') {w : Value} (hO : SVa H' w (bytesL r.am.toNat 4)) : P3 H1 r ⟨c.b, c.v1, c.v2, w, c.b4, c.v5, c.v6⟩ (setB g 17) H' := by
  obtain ⟨n18, n19⟩ := h.not18 (i := 17) (by simp) hg
  refine ⟨Heap.le_trans h.le hl, fun e => hl _ _ (h.k0 (setB_ne' (by decide) e)), fun e => (h.k1 (setB_ne' (by decide) e)).le hl, fun e => (h.k2 (setB_ne' (by decide) e)).le hl, fun _ => hO, fun e => ?_, fun e => ?_, fun e => ?_, fun e => ?_, fun e => ?_, fun e => ?_⟩
  · rw [setB_ne' (i := 17) (by decide) e] at n18; cases n18
  · rw [setB_ne' (i := 17) (by decide) e] at n18; cases n18
  · rw [setB_ne' (i := 17) (by decide) e] at n19; cases n19
  · have := h.not20 n19; rw [setB_ne' (i := 17) (by decide) e] at this; cases this
  · have := h.not20 n19; rw [setB_ne' (i := 17) (by decide) e] at this; cases this
  · rw [setB_ne' (i := 17) (by decide) e] at n19; cases n19
theorem P3.build4 (h : P3 H1 r c g H) (hg : g 18 = false) (h3 : g 3 = true) (h8 : g 8 = true) (h13 : g 13 = true) (h17 : g 17 = true) {b : Nat} (hb : H b = none) :
    P3 H1 r ⟨c.b, c.v1, c.v2, c.v3, b, c.v5, c.v6⟩ (setB g 18) (upd H b (.row true 0 [.slice (some ⟨c.b, 0, none⟩) 1 1, c.v1, c.v2, c.v3] 0)) := by
  have n19 : g 19 = false := by
    cases e : g 19 with
    | false => rfl
    | true => rw [h.o19 e] at hg; cases hg
  have hl := le_upd (.row true 0 [.slice (some ⟨c.b, 0, none⟩) 1 1, c.v1, c.v2, c.v3] 0) hb
  refine ⟨Heap.le_trans h.le hl, fun _ => hl _ _ (h.k0 h3), fun _ => (h.k1 h8).le hl, fun _ => (h.k2 h13).le hl, fun _ => (h.k3 h17).le hl, fun _ => upd_same _ _ _, fun _ => ⟨setB_up h3, setB_up h8, setB_up h13, setB_up h17⟩, fun e => ?_, fun e => ?_, fun e => ?_, fun e => ?_⟩
  · rw [setB_ne' (i := 18) (by decide) e] at n19; cases n19
  · have := h.not20 n19; rw [setB_ne' (i := 18) (by decide) e] at this; cases this
  · have := h.not20 n19; rw [setB_ne' (i := 18) (by decide) e] at this; cases this
  · rw [setB_ne' (i := 18) (by decide) e] at n19; cases n19
theorem Own.since {H0 H R : Heap} (h0 : Heap.le H0 H) (h : Own H (fun _ => none) H' R) : Own H0 (fun _ => none) H' R := ⟨fun b o h1 h2 => h.mv b o h1 (h0 b o h2), h.le⟩
theorem P3.cat (h : P3 H1 r c g H) (hg : g 18 = true) : ∃ xs : List SZ, SlA H (some ⟨c.b4, 0, none⟩) 4 1 (rowsC SZ.cells xs) ∧ (∀ x ∈ xs, SlA H x.a x.n 1 (x.bs.map u8V) ∧ x.n ≤ 1000000) ∧ catB xs = headB r := by
  obtain ⟨h3, h8, h13, h17⟩ := h.o18 hg
  obtain ⟨a1, n1, d1, q1, s1⟩ := h.k1 h8
  obtain ⟨a2, n2, d2, q2, s2⟩ := h.k2 h13
  obtain ⟨a3, n3, d3, q3, s3⟩ := h.k3 h17
  have hr := h.k4 hg
  rw [q1, q2, q3] at hr
  have l1 : n1 = 2 := by have := s1.len; simp [bytesL_len] at this; omega
  have l2 : n2 = 4 := by have := s2.len; simp [bytesL_len] at this; omega
  have l3 : n3 = 4 := by have := s3.len; simp [bytesL_len] at this; omega
  refine ⟨[⟨some ⟨c.b, 0, none⟩, 1, 1, [kB r]⟩, ⟨a1, n1, d1, bytesL r.t.toNat 2⟩, ⟨a2, n2, d2, bytesL r.s.toNat 4⟩, ⟨a3, n3, d3, bytesL r.am.toNat 4⟩], SlA.row hr (Nat.le_refl _) rfl (by simp) rfl, ?_, by simp [catB, headB]⟩
  intro x hx
  simp only [List.mem_cons, List.not_mem_nil, or_false] at hx
  rcases hx with rfl | rfl | rfl | rfl
  · exact ⟨SlA.row (h.k0 h3) (Nat.le_refl _) rfl (by simp) rfl, by simp⟩
  · exact ⟨s1, by simp only; omega⟩
  · exact ⟨s2, by simp only; omega⟩
  · exact ⟨s3, by simp only; omega⟩
theorem P3.done (h : P3 H1 r c g H) (hg : g 19 = false) (h18 : g 18 = true) (hl : Heap.le H H') {w : Value} (hR : ∃ R, Own H (fun _ => none) H' R ∧ LstR R w 1 (headB r).length ((headB r).map u8V)) : P3 H1 r ⟨c.b, c.v1, c.v2, c.v3, c.b4, w, c.v6⟩ (setB g 19) H' := by
  obtain ⟨h3, h8, h13, h17⟩ := h.o18 h18
  obtain ⟨R, ow, hL⟩ := hR
  exact ⟨Heap.le_trans h.le hl, fun _ => hl _ _ (h.k0 h3), fun _ => (h.k1 h8).le hl, fun _ => (h.k2 h13).le hl, fun _ => (h.k3 h17).le hl, fun _ => hl _ _ (h.k4 h18), fun _ => ⟨setB_up h3, setB_up h8, setB_up h13, setB_up h17⟩, fun _ => setB_up h18, fun e => (by have := h.not20 hg; rw [setB_ne' (i := 19) (by decide) e] at this; cases this), fun e => (by have := h.not20 hg; rw [setB_ne' (i := 19) (by decide) e] at this; cases this), fun _ => ⟨R, ow.since h.le, hL⟩⟩
theorem P3.last (h : P3 H1 r c g H) (h19 : g 19 = true) : P3 H1 r ⟨c.b, c.v1, c.v2, c.v3, c.b4, c.v5, c.v5⟩ (setB g 20) H := by
  have h18 := h.o19 h19
  obtain ⟨h3, h8, h13, h17⟩ := h.o18 h18
  exact ⟨h.le, fun _ => h.k0 h3, fun _ => h.k1 h8, fun _ => h.k2 h13, fun _ => h.k3 h17, fun _ => h.k4 h18, fun _ => ⟨setB_up h3, setB_up h8, setB_up h13, setB_up h17⟩, fun _ => setB_up h18, fun _ => setB_up h19, fun _ => rfl, fun _ => h.k5 h19⟩
end
def catI (l : List Int) : List UInt8 := (l.map fun z => bytesL z.toNat 2).flatten
def catN (xs : List NZ) : List UInt8 := (xs.map fun x => catI x.l).flatten
theorem catI_step {l : List Int} {k : Nat} {z : Int} (h : l[k]? = some z) : catI (l.take (k + 1)) = catI (l.take k) ++ bytesL z.toNat 2 := by
  unfold catI; rw [List.take_add_one, h]; simp
theorem catN_step {xs : List NZ} {k : Nat} {x : NZ} (h : xs[k]? = some x) : catN (xs.take (k + 1)) = catN (xs.take k) ++ catI x.l := by
  unfold catN; rw [List.take_add_one, h]; simp
theorem catI_len (l : List Int) : (catI l).length = 2 * l.length := by
  unfold catI
  induction l with
  | nil => rfl
  | cons z l ih => rw [List.map_cons, List.flatten_cons, List.length_append, ih, bytesL_len, List.length_cons]; omega
theorem catN_len (xs : List NZ) : (catN xs).length = 8 * xs.length := by
  unfold catN
  induction xs with
  | nil => rfl
  | cons z l ih => rw [List.map_cons, List.flatten_cons, List.length_append, ih, catI_len, List.length_cons]; simp [NZ.l]; omega
def bodyB (r : RZ) : List UInt8 := headB r ++ catN [r.ns, r.rs, r.ls] ++ [UInt8.ofNat r.pan.size] ++ r.pan.data.toList
def putB (r : RZ) : List UInt8 := [165, UInt8.ofNat (bodyB r).length] ++ bodyB r ++ bytesL (crcN (bodyB r)) 4
theorem headB_len (r : RZ) : (headB r).length = 11 := by simp [headB, bytesL_len]
theorem bodyB_len (r : RZ) : (bodyB r).length = 36 + r.pan.size := by
  unfold bodyB
  simp only [List.length_append, headB_len, catN_len, List.length_cons, List.length_nil, Array.length_toList]
  show 11 + 8 * 3 + 1 + r.pan.size = _
  omega
def put0Inv (F R3 : Heap) (b1 bn : Nat) (r : RZ) (st : St) : Prop :=
  ∃ (k : Nat) (R : Heap), k ≤ 3 ∧ st.env 1 = .pointer (some ⟨b1, 0, none⟩) ∧ st.env 38 = .slice (some ⟨bn, 0, none⟩) 3 3 ∧ st.env 39 = .int .i64 3 ∧ st.env 40 = .int .i64 k ∧ Own F R3 st.heap R ∧ LstR R (st.env 4) 1 (headB r ++ catN ([r.ns, r.rs, r.ls].take k)).length ((headB r ++ catN ([r.ns, r.rs, r.ls].take k)).map u8V)
def put2Inv (F R3 : Heap) (b1 bn k : Nat) (r : RZ) (x : NZ) (st : St) : Prop :=
  ∃ (m : Nat) (R : Heap), m ≤ 4 ∧ st.env 1 = .pointer (some ⟨b1, 0, none⟩) ∧ st.env 38 = .slice (some ⟨bn, 0, none⟩) 3 3 ∧ st.env 39 = .int .i64 3 ∧ st.env 40 = .int .i64 k ∧ st.env 44 = .agg #[.int .i64 x.a, .int .i64 x.b, .int .i64 x.c, .int .i64 x.d] ∧ st.env 45 = .int .i64 m ∧ Own F R3 st.heap R ∧ LstR R (st.env 4) 1 (headB r ++ catN ([r.ns, r.rs, r.ls].take k) ++ catI (x.l.take m)).length ((headB r ++ catN ([r.ns, r.rs, r.ls].take k) ++ catI (x.l.take m)).map u8V)
theorem inC_of {x : NZ} (h : x.ok = true) {z : Int} (hz : z ∈ x.l) : 0 ≤ z ∧ z ≤ 10000 := by
  have := List.all_eq_true.1 h z hz
  simpa [inC] using this
set_option maxHeartbeats 4000000 in
theorem fput_c (r : RZ) (H : Heap) (hr : r.right = true) (hw : r.wf) : ECalls Try.prog 10 #[.agg #[.int .i64 r.kind, .int .u16 r.t, .int .u32 r.s, .string r.pan, .int .i64 r.am, .int .i64 r.ns.a, .int .i64 r.ns.b, .int .i64 r.ns.c, .int .i64 r.ns.d, .int .i64 r.rs.a, .int .i64 r.rs.b, .int .i64 r.rs.c, .int .i64 r.rs.d, .int .i64 r.ls.a, .int .i64 r.ls.b, .int .i64 r.ls.c, .int .i64 r.ls.d]] H fun v H' => ∃ sv R, v = .tuple #[sv, .int .i64 0] ∧ Own H (fun _ => none) H' R ∧ LstR R sv 1 (putB r).length ((putB r).map u8V) := by
  refine ecalls_of_ewp (args := [_]) Try.func10 rfl rfl rfl (by simp [Try.ntmps10]) (by kernel_rfl) ?_
  obtain ⟨⟨t1, t2⟩, ⟨s1', s2'⟩⟩ := hw
  have hrr := hr
  simp only [RZ.right, Bool.and_eq_true, decide_eq_true_eq] at hrr
  obtain ⟨⟨⟨⟨⟨⟨⟨⟨k1, k2⟩, k3⟩, k4⟩, k5⟩, k6⟩, k7⟩, k8⟩, k9⟩ := hrr
  simp (disch := first | omega | assumption | decide | (simp <;> omega) | fail) [facts, ]
  refine fresh_intro fun b1 hb1 => ?_
  have hle1 := le_upd (.row true 0 [.int .i64 r.kind, .int .u16 r.t, .int .u32 r.s, .string r.pan, .int .i64 r.am, .int .i64 r.ns.a, .int .i64 r.ns.b, .int .i64 r.ns.c, .int .i64 r.ns.d, .int .i64 r.rs.a, .int .i64 r.rs.b, .int .i64 r.rs.c, .int .i64 r.rs.d, .int .i64 r.ls.a, .int .i64 r.ls.b, .int .i64 r.ls.c, .int .i64 r.ls.d] 0) hb1
  have hrow := upd_same H b1 (.row true 0 [.int .i64 r.kind, .int .u16 r.t, .int .u32 r.s, .string r.pan, .int .i64 r.am, .int .i64 r.ns.a, .int .i64 r.ns.b, .int .i64 r.ns.c, .int .i64 r.ns.d, .int .i64 r.rs.a, .int .i64 r.rs.b, .int .i64 r.rs.c, .int .i64 r.rs.d, .int .i64 r.ls.a, .int .i64 r.ls.b, .int .i64 r.ls.c, .int .i64 r.ls.d] 0)
  generalize upd H b1 (.row true 0 [.int .i64 r.kind, .int .u16 r.t, .int .u32 r.s, .string r.pan, .int .i64 r.am, .int .i64 r.ns.a, .int .i64 r.ns.b, .int .i64 r.ns.c, .int .i64 r.ns.d, .int .i64 r.rs.a, .int .i64 r.rs.b, .int .i64 r.rs.c, .int .i64 r.rs.d, .int .i64 r.ls.a, .int .i64 r.ls.b, .int .i64 r.ls.c, .int .i64 r.ls.d] 0) = H0 at *
  simp (disch := first | omega | assumption | decide | (simp <;> omega) | fail) [facts, hrow]
  refine (right_c r H0 (by omega)).mono ?_
  rintro v H1 ⟨rfl, hle2⟩
  rw [hr]
  replace hrow := hle2 _ _ hrow
  have hkB : Value.int .u8 r.kind = u8V (kB r) := by
    unfold kB u8V
    congr 1
    rw [UInt8.toNat_ofNat']
    omega
  simp (disch := first | omega | assumption | decide | (simp <;> omega) | fail) [facts, ]
  refine w_vals (C := PC) (by simp [facts]) (by decide +kernel) (fun c => [.pointer (some ⟨b1, 0, none⟩), .int .i64 r.kind, .int .u8 r.kind, .slice (some ⟨c.b, 0, none⟩) 1 1, .pointer (some ⟨b1, 1, none⟩), .pointer (some ⟨b1, 1, none⟩), .int .u16 r.t, .int .u64 r.t, c.v1,
    .pointer (some ⟨b1, 1, none⟩), .pointer (some ⟨b1, 2, none⟩), .int .u32 r.s, .int .u64 r.s, c.v2, .pointer (some ⟨b1, 4, none⟩), .int .i64 r.am, .int .u64 r.am, c.v3, .slice (some ⟨c.b4, 0, none⟩) 4 4, c.v5, c.v6]) (P3 H1 r) ⟨0, undef, undef, undef, 0, undef, undef⟩ ?_ ?_ ?_
  · exact ⟨Heap.le_refl _, fun e => (by cases e), fun e => (by cases e), fun e => (by cases e), fun e => (by cases e), fun e => (by cases e), fun e => (by cases e), fun e => (by cases e), fun e => (by cases e), fun e => (by cases e), fun e => (by cases e)⟩
  · simp only [allFrom_cons, allFrom_nil, putAll_cons, putAll_nil]
    refine ⟨?_, ?_, ?_, ?_, ?_, ?_, ?_, ?_, ?_, ?_, ?_, ?_, ?_, ?_, ?_, ?_, ?_, ?_, ?_, ?_, ?_, trivial⟩
    all_goals (unfold stepV; intro c g Hx hg hr' hI)
    · simp (disch := first | omega | assumption | decide | (simp <;> omega) | fail) [facts, hrow]
      exact endV_same (by rintro d ⟨⟩; simp (disch := first | omega | assumption | decide | (simp <;> omega) | fail) [facts, hrow]) (hI.same 0 (by decide))
    · have hx := hI.le _ _ hrow
      simp (disch := first | omega | assumption | decide | (simp <;> omega) | fail) [facts, hx]
      exact endV_same (by rintro d ⟨⟩; simp (disch := first | omega | assumption | decide | (simp <;> omega) | fail) [facts, hrow]) (hI.same 1 (by decide))
    · simp (disch := first | omega | assumption | decide | (simp <;> omega) | fail) [facts, hrow]
      exact endV_same (by rintro d ⟨⟩; simp (disch := first | omega | assumption | decide | (simp <;> omega) | fail) [facts, hrow]) (hI.same 2 (by decide))
    · simp (disch := first | omega | assumption | decide | (simp <;> omega) | fail) [facts, ]
      refine fresh_intro fun b hb => ?_
      simp (disch := first | omega | assumption | decide | (simp <;> omega) | fail) [facts, ]
      rw [hkB]
      exact endV_to ⟨b, c.v1, c.v2, c.v3, c.b4, c.v5, c.v6⟩ (by rintro d ⟨⟩; simp (disch := first | omega | assumption | decide | (simp <;> omega) | fail) [facts, ]) (fun t ht => by have ht2 : t ≠ 15 := fun e' => ht (by rw [e']); simp [setE, ht2]) (hI.build hg hb)
    · simp (disch := first | omega | assumption | decide | (simp <;> omega) | fail) [facts, hrow]
      exact endV_same (by rintro d ⟨⟩; simp (disch := first | omega | assumption | decide | (simp <;> omega) | fail) [facts, hrow]) (hI.same 4 (by decide))
    · simp (disch := first | omega | assumption | decide | (simp <;> omega) | fail) [facts, hrow]
      exact endV_same (by rintro d ⟨⟩; simp (disch := first | omega | assumption | decide | (simp <;> omega) | fail) [facts, hrow]) (hI.same 5 (by decide))
    · have hx := hI.le _ _ hrow
      simp (disch := first | omega | assumption | decide | (simp <;> omega) | fail) [facts, hx]
      exact endV_same (by rintro d ⟨⟩; simp (disch := first | omega | assumption | decide | (simp <;> omega) | fail) [facts, hrow]) (hI.same 6 (by decide))
    · simp (disch := first | omega | assumption | decide | (simp <;> omega) | fail) [facts, hrow]
      exact endV_same (by rintro d ⟨⟩; simp (disch := first | omega | assumption | decide | (simp <;> omega) | fail) [facts, hrow]) (hI.same 7 (by decide))
    · simp (disch := first | omega | assumption | decide | (simp <;> omega) | fail) [facts, ]
      have cc := bytes_c r.t.toNat 2 Hx (by omega) (by unfold i64In; omega)
      rw [Int.toNat_of_nonneg (by omega)] at cc
      refine cc.mono ?_
      rintro w H' ⟨hl, hO⟩
      simp (disch := first | omega | assumption | decide | (simp <;> omega) | fail) [facts, ]
      exact endV_to ⟨c.b, w, c.v2, c.v3, c.b4, c.v5, c.v6⟩ (by rintro d ⟨⟩; simp (disch := first | omega | assumption | decide | (simp <;> omega) | fail) [facts, ]) (fun t ht => by have ht2 : t ≠ 20 := fun e' => ht (by rw [e']); simp [setE, ht2]) (hI.by1 hg hl (SVa.out hO))
    · simp (disch := first | omega | assumption | decide | (simp <;> omega) | fail) [facts, hrow]
      exact endV_same (by rintro d ⟨⟩; simp (disch := first | omega | assumption | decide | (simp <;> omega) | fail) [facts, hrow]) (hI.same 9 (by decide))
    · simp (disch := first | omega | assumption | decide | (simp <;> omega) | fail) [facts, hrow]
      exact endV_same (by rintro d ⟨⟩; simp (disch := first | omega | assumption | decide | (simp <;> omega) | fail) [facts, hrow]) (hI.same 10 (by decide))
    · have hx := hI.le _ _ hrow
      simp (disch := first | omega | assumption | decide | (simp <;> omega) | fail) [facts, hx]
      exact endV_same (by rintro d ⟨⟩; simp (disch := first | omega | assumption | decide | (simp <;> omega) | fail) [facts, hrow]) (hI.same 11 (by decide))
    · simp (disch := first | omega | assumption | decide | (simp <;> omega) | fail) [facts, hrow]
      exact endV_same (by rintro d ⟨⟩; simp (disch := first | omega | assumption | decide | (simp <;> omega) | fail) [facts, hrow]) (hI.same 12 (by decide))
    · simp (disch := first | omega | assumption | decide | (simp <;> omega) | fail) [facts, ]
      have cc := bytes_c r.s.toNat 4 Hx (by omega) (by unfold i64In; omega)
      rw [Int.toNat_of_nonneg (by omega)] at cc
      refine cc.mono ?_
      rintro w H' ⟨hl, hO⟩
      simp (disch := first | omega | assumption | decide | (simp <;> omega) | fail) [facts, ]
      exact endV_to ⟨c.b, c.v1, w, c.v3, c.b4, c.v5, c.v6⟩ (by rintro d ⟨⟩; simp (disch := first | omega | assumption | decide | (simp <;> omega) | fail) [facts, ]) (fun t ht => by have ht2 : t ≠ 25 := fun e' => ht (by rw [e']); simp [setE, ht2]) (hI.by2 hg hl (SVa.out hO))
    · simp (disch := first | omega | assumption | decide | (simp <;> omega) | fail) [facts, hrow]
      exact endV_same (by rintro d ⟨⟩; simp (disch := first | omega | assumption | decide | (simp <;> omega) | fail) [facts, hrow]) (hI.same 14 (by decide))
    · have hx := hI.le _ _ hrow
      simp (disch := first | omega | assumption | decide | (simp <;> omega) | fail) [facts, hx]
      exact endV_same (by rintro d ⟨⟩; simp (disch := first | omega | assumption | decide | (simp <;> omega) | fail) [facts, hrow]) (hI.same 15 (by decide))
    · simp (disch := first | omega | assumption | decide | (simp <;> omega) | fail) [facts, hrow]
      exact endV_same (by rintro d ⟨⟩; simp (disch := first | omega | assumption | decide | (simp <;> omega) | fail) [facts, hrow]) (hI.same 16 (by decide))
    · simp (disch := first | omega | assumption | decide | (simp <;> omega) | fail) [facts, ]
      have cc := bytes_c r.am.toNat 4 Hx (by omega) (by unfold i64In; omega)
      rw [Int.toNat_of_nonneg (by omega)] at cc
      refine cc.mono ?_
      rintro w H' ⟨hl, hO⟩
      simp (disch := first | omega | assumption | decide | (simp <;> omega) | fail) [facts, ]
      exact endV_to ⟨c.b, c.v1, c.v2, w, c.b4, c.v5, c.v6⟩ (by rintro d ⟨⟩; simp (disch := first | omega | assumption | decide | (simp <;> omega) | fail) [facts, ]) (fun t ht => by have ht2 : t ≠ 29 := fun e' => ht (by rw [e']); simp [setE, ht2]) (hI.by3 hg hl (SVa.out hO))
    · have g3 : g 3 = true := hr' ⟨3, .data⟩ (by simp) (by decide)
      have g8 : g 8 = true := hr' ⟨8, .data⟩ (by simp) (by decide)
      have g13 : g 13 = true := hr' ⟨13, .data⟩ (by simp) (by decide)
      have g17 : g 17 = true := hr' ⟨17, .data⟩ (by simp) (by decide)
      obtain ⟨e1, n1, d1, q1, _⟩ := hI.k1 g8
      obtain ⟨e2, n2, d2, q2, _⟩ := hI.k2 g13
      obtain ⟨e3, n3, d3, q3, _⟩ := hI.k3 g17
      have hb4 := fun (b : Nat) (hb : Hx b = none) => hI.build4 hg g3 g8 g13 g17 hb
      rw [q1, q2, q3] at hb4
      simp (disch := first | omega | assumption | decide | (simp <;> omega) | fail) [facts, q1, q2, q3]
      refine fresh_intro fun b hb => ?_
      simp (disch := first | omega | assumption | decide | (simp <;> omega) | fail) [facts, ]
      refine endV_to ⟨c.b, c.v1, c.v2, c.v3, b, c.v5, c.v6⟩ (by rintro d ⟨⟩; simp (disch := first | omega | assumption | decide | (simp <;> omega) | fail) [facts, ]) (fun t ht => by have ht2 : t ≠ 30 := fun e' => ht (by rw [e']); simp [setE, ht2]) ?_
      rw [q1, q2, q3]
      exact hb4 b hb
    · have g18 : g 18 = true := hr' ⟨18, .data⟩ (by simp) (by decide)
      obtain ⟨xs, hsl, hds, hcat⟩ := hI.cat g18
      simp (disch := first | omega | assumption | decide | (simp <;> omega) | fail) [facts, ]
      refine (concat_c _ 4 4 xs Hx hsl hds (by decide)).mono ?_
      rintro w H' ⟨R, ow, hL⟩
      rw [hcat] at hL
      simp (disch := first | omega | assumption | decide | (simp <;> omega) | fail) [facts, ]
      exact endV_to ⟨c.b, c.v1, c.v2, c.v3, c.b4, w, c.v6⟩ (by rintro d ⟨⟩; simp (disch := first | omega | assumption | decide | (simp <;> omega) | fail) [facts, ]) (fun t ht => by have ht2 : t ≠ 31 := fun e' => ht (by rw [e']); simp [setE, ht2]) (hI.done hg g18 ow.all ⟨R, ow, hL⟩)
    · have g19 : g 19 = true := hr' ⟨19, .data⟩ (by simp) (by decide)
      simp (disch := first | omega | assumption | decide | (simp <;> omega) | fail) [facts, ]
      exact endV_to ⟨c.b, c.v1, c.v2, c.v3, c.b4, c.v5, c.v5⟩ (by rintro d ⟨⟩; simp (disch := first | omega | assumption | decide | (simp <;> omega) | fail) [facts, ]) (fun t ht => by have ht2 : t ≠ 4 := fun e' => ht (by rw [e']); simp [setE, ht2]) (hI.last g19)
  intro c g H2 hall hI
  obtain ⟨R3, ow3, hL3⟩ := hI.k5 (hall 19 (by decide))
  have h6 := hI.k6 (hall 20 (by decide))
  have hle3 := hI.le
  simp only [putAll_cons, putAll_nil]
  rw [h6]
  have hR3 := (ow3.mv _ _ rfl hrow).1
  have hrow2 := hle3 _ _ hrow
  clear hI hall
  generalize c.v5 = sv0 at *
  simp (disch := first | omega | assumption | decide | (simp <;> omega) | fail) [facts, hrow2]
  refine fresh_intro fun bn hbn => ?_
  simp (disch := first | omega | assumption | decide | (simp <;> omega) | fail) [facts, notes3 r.ns r.rs r.ls]
  have hbnR : R3 bn = none := le_of_none ow3.le hbn
  have hleF := le_upd (.row true 0 (rowsC NZ.cells [r.ns, r.rs, r.ls]) 0) hbn
  have hFbn := upd_same H2 bn (.row true 0 (rowsC NZ.cells [r.ns, r.rs, r.ls]) 0)
  generalize upd H2 bn (.row true 0 (rowsC NZ.cells [r.ns, r.rs, r.ls]) 0) = F at *
  have hrowF := hleF _ _ hrow2
  have hRF : Heap.le R3 F := Heap.le_trans ow3.le hleF
  have hslF : SlA F (some ⟨bn, 0, none⟩) 3 4 (rowsC NZ.cells [r.ns, r.rs, r.ls]) := SlA.row hFbn (Nat.le_refl _) rfl (by simp [rowsC, NZ.cells]) (by simp [rowsC, NZ.cells])
  have owF : Own H (fun _ => none) F R3 := Own.since (Heap.le_trans hle1 hle2) (ow3.grow hleF)
  refine w_loop (put0Inv F R3 b1 bn r) (fun st => 3 - (intOf (st.env 40)).toNat) ?_ ?_
  · exact ⟨0, R3, by decide, by simp, by simp, by simp, by simp, Own.refl hRF, by simpa [catN] using hL3⟩
  rintro ⟨env, G⟩ ⟨k, R, hk, e1, e38, e39, e40, ow, hls⟩
  simp only at e1 e38 e39 e40 ow hls
  have hnsok : ∀ x ∈ [r.ns, r.rs, r.ls], x.ok = true := fun x hx => by
    simp only [List.mem_cons, List.not_mem_nil, or_false] at hx
    rcases hx with rfl | rfl | rfl <;> assumption
  by_cases hlt : k < 3
  · have hltI : (k : Int) < 3 := by omega
    obtain ⟨x, hx⟩ : ∃ x, [r.ns, r.rs, r.ls][k]? = some x := ⟨_, List.getElem?_eq_getElem (by simpa using hlt)⟩
    have hxok := hnsok x (List.mem_of_getElem? hx)
    have hbG := (ow.mv _ _ hbnR hFbn).2
    have hslG : SlA G (some ⟨bn, 0, none⟩) 3 4 (rowsC NZ.cells [r.ns, r.rs, r.ls]) := SlA.row hbG (Nat.le_refl _) rfl (by simp [rowsC, NZ.cells]) (by simp [rowsC, NZ.cells])
    have rx : rdNU (G bn) (0 + k * 4) 4 = some [.int .i64 x.a, .int .i64 x.b, .int .i64 x.c, .int .i64 x.d] := hslG.el n4 hx (j := 0) (r := 4) (by decide) (by decide)
    rw [Nat.zero_add] at rx
    generalize e4 : env 4 = sv at hls
    simp (disch := first | omega | assumption | decide | (simp <;> omega) | fail) [facts, e1, e38, e39, e40, e4, hltI, rx]
    refine fresh_intro fun b6 hb6 => ?_
    simp (disch := first | omega | assumption | decide | (simp <;> omega) | fail) [facts, upd_upd, upd_same]
    refine w_loop (put2Inv F R3 b1 bn k r x) (fun st => 4 - (intOf (st.env 45)).toNat) ?_ ?_
    · exact ⟨0, R, by decide, by simp [e1], by simp [e38], by simp [e39], by simp [e40], by simp, by simp, ow.grow (le_upd _ hb6), by simpa [catI, e4] using hls⟩
    clear e1 e38 e39 e40 e4 ow hls hbG hslG rx
    rintro ⟨env2, G2⟩ ⟨m, R', hm, e1, e38, e39, e40, e44, e45, ow, hls⟩
    simp only at e1 e38 e39 e40 e44 e45 ow hls
    by_cases hm4 : m < 4
    · have hm4I : (m : Int) < 4 := by omega
      obtain ⟨z, hz⟩ : ∃ z, x.l[m]? = some z := ⟨_, List.getElem?_eq_getElem (by simpa [NZ.l] using hm4)⟩
      have rz := x.at hz
      obtain ⟨hmm, rz2⟩ := List.getElem?_eq_some_iff.1 rz
      have hzb := inC_of hxok (List.mem_of_getElem? hz)
      generalize e4 : env2 4 = sv2 at hls
      have cc := bytes_c z.toNat 2 G2 (by omega) (by unfold i64In; omega)
      rw [Int.toNat_of_nonneg (by omega)] at cc
      simp (disch := first | omega | assumption | decide | (simp <;> omega) | fail) [facts, e1, e38, e39, e40, e44, e45, e4, hm4I, rz, rz2]
      refine cc.mono ?_
      rintro w G3 ⟨hl3, hO⟩
      obtain ⟨aw, cw, rfl, hsw⟩ := hO.sl
      have hstep := catI_step hz
      simp (disch := first | omega | assumption | decide | (simp <;> omega) | fail) [facts, e4]
      refine hls.app (H0 := F) (B0 := R3) (e := 5) (s := 1) (nbs := 1) (z := .int .u8 0) (m := 2) (ys := (bytesL z.toNat 2).map u8V) (by simp [facts]) (by simp [facts]) (by simp [facts]) (by simp [facts]) rfl (by decide) (ow.grow hl3)
        (src_sl (e1 := 5) (z := .int .u8 0) (by simp [facts]) (by simp [facts]) (by simp [facts]) hsw) (by simp [bytesL_len]) (by simp [u8V, Value.oneCell']) ?_ ?_
      · simp only [List.length_append, headB_len, catN_len, catI_len, List.length_take]
        simp [NZ.l]; omega
      intro v' H' R'' ow' hl' _ _
      simp (disch := first | omega | assumption | decide | (simp <;> omega) | fail) [facts, e45]
      refine ⟨_, Heap.le_refl _, ⟨m + 1, R'', by omega, by simp [e1], by simp [e38], by simp [e39], by simp [e40], by simp [e44], by simp, ow', ?_⟩, by simp [intOf, e45]; omega⟩
      rw [hstep, ← List.append_assoc, List.length_append (bs := bytesL z.toNat 2), List.map_append, bytesL_len]
      simpa using hl'
    · have hm44 : m = 4 := by omega
      subst hm44
      simp (disch := first | omega | assumption | decide | (simp <;> omega) | fail) [facts, e1, e38, e39, e40, e44, e45]
      refine ⟨_, Heap.le_refl _, ⟨k + 1, R', by omega, by simp [e1], by simp [e38], by simp [e39], by simp, ow, ?_⟩, by simp [intOf, e40]; omega⟩
      rw [catN_step hx, ← List.append_assoc]
      rw [show x.l.take 4 = x.l from rfl] at hls
      simpa using hls
  have hk3 : k = 3 := by omega
  subst hk3
  have etk : [r.ns, r.rs, r.ls].take 3 = [r.ns, r.rs, r.ls] := rfl
  rw [etk] at hls
  generalize e4 : env 4 = sv at hls
  have hrowG := (ow.mv _ _ hR3 hrowF).2
  have hRb1 := (ow.mv _ _ hR3 hrowF).1
  simp (disch := first | omega | assumption | decide | (simp <;> omega) | fail) [facts, e1, e38, e39, e40, e4]
  have hbl := bodyB_len r
  have hhl : (headB r ++ catN [r.ns, r.rs, r.ls]).length = 35 := by rw [List.length_append, headB_len, catN_len]; rfl
  obtain ⟨I, hI⟩ : ∃ I : St → Prop, I = (fun st => ∃ R', Own F R3 st.heap R' ∧ LstR R' (st.env 4) 1 (bodyB r).length ((bodyB r).map u8V)) := ⟨_, rfl⟩
  have hpanb : IntKind.wrap .u8 (r.pan.size : Int) = (r.pan.size : Int) := wr_u8 (by omega) (by omega)
  have hpanB : Value.int .u8 (r.pan.size : Int) = u8V (UInt8.ofNat r.pan.size) := by
    unfold u8V
    congr 1
    rw [UInt8.toNat_ofNat']
    omega
  have hpone : (r.pan.data.toList.map u8V).all (·.oneCell') = true := List.all_eq_true.2 fun v hv => by
    obtain ⟨c', _, rfl⟩ := List.mem_map.1 hv
    rfl
  refine w_cut I ?_ ?_
  · refine w_plan (by simp [facts]) (opsP [0,1,7] (.both (opsP [2,3,4] (.both (opsP [5] (.both (opsP [6,8,9,10] .done) (opsP [8,6,9,10] .done))) (opsP [8,5,6,9,10] .done))) (opsP [8,2,3,4,5,6,9,10] .done))) (by decide +kernel) ?_
    simp (disch := first | omega | assumption | decide | (simp <;> omega) | fail) [facts, e1, e4, hrowG]
    repeat' apply And.intro
    all_goals
      refine fresh_intro fun b hb => ?_
      have hrow5 := upd_other (o := .row true 0 [.int .u8 (r.pan.size : Int)] 0) hb hrowG
      simp (disch := first | omega | assumption | decide | (simp <;> omega) | fail) [facts, e1, e4, hrow5]
      repeat' apply And.intro
    all_goals
      refine hls.app (H0 := F) (B0 := R3) (e := 5) (s := 1) (nbs := 1) (z := .int .u8 0) (m := 1) (ys := [.int .u8 (r.pan.size : Int)]) (by simp [facts]) (by simp [facts]) (by simp [facts]) (by simp [facts]) rfl (by decide) (ow.grow (le_upd _ (by assumption)))
        (srcOne (e1 := 5) (z := .int .u8 0) (by simp [facts]) (by simp [facts]) (by simp [facts]) rfl) rfl rfl (by omega) ?_
      intro v' H' R' ow' hl' _ _
      have hrow6 := (ow'.mv _ _ hR3 hrowF).2
      simp (disch := first | omega | assumption | decide | (simp <;> omega) | fail) [facts, hrow6]
      refine hl'.app (H0 := F) (B0 := R3) (e := 5) (s := 1) (nbs := 1) (z := .int .u8 0) (m := r.pan.size) (ys := r.pan.data.toList.map u8V) (by simp [facts]) (by simp [facts]) (by simp [facts]) (by simp [facts]) rfl (by decide) ow'
        (src_str (z := .int .u8 0) (by simp [facts]) (by simp [facts]) (by simp [facts])) (by simp) hpone (by omega) ?_
      intro v2 H2' R2' ow2 hl2 _ _
      simp (disch := first | omega | assumption | decide | (simp <;> omega) | fail) [facts, ]
      subst hI
      have e1 : (headB r ++ catN [r.ns, r.rs, r.ls]).length + 1 + r.pan.size = (bodyB r).length := by omega
      have e2 : (headB r ++ catN [r.ns, r.rs, r.ls]).map u8V ++ [.int .u8 (r.pan.size : Int)] ++ r.pan.data.toList.map u8V = (bodyB r).map u8V := by rw [hpanB]; unfold bodyB; simp only [List.map_append, List.map_cons, List.map_nil]
      rw [e1, e2] at hl2
      exact ⟨R2', ow2, by simpa using hl2⟩
  rintro ⟨env5, G5⟩ hS
  subst hI
  obtain ⟨R5, ow5, hl5⟩ := hS
  clear e1 e38 e39 e40 e4 hls ow hrowG
  simp only at ow5 hl5
  generalize e4 : env5 4 = sv5 at hl5
  obtain ⟨a5, c5, rfl, hs5, _⟩ := hl5.sl ow5.le
  have hwb : IntKind.wrap .u8 ((bodyB r).length : Int) = ((bodyB r).length : Int) := wr_u8 (by omega) (by omega)
  simp (disch := first | omega | assumption | decide | (simp <;> omega) | fail) [facts, e4, hwb]
  refine fresh_intro fun bm hbm => ?_
  have hlm := le_upd (.row true 0 [.int .u8 165, .int .u8 ((bodyB r).length : Int)] 0) hbm
  have hrm := upd_same G5 bm (.row true 0 [.int .u8 165, .int .u8 ((bodyB r).length : Int)] 0)
  simp (disch := first | omega | assumption | decide | (simp <;> omega) | fail) [facts, e4]
  generalize upd G5 bm (.row true 0 [.int .u8 165, .int .u8 ((bodyB r).length : Int)] 0) = G6 at *
  refine (sum_c a5 _ c5 (bodyB r) G6 (hs5.le hlm) (by omega)).mono ?_
  rintro v G7 ⟨rfl, rfl⟩
  have hcl := crcN_lt (bodyB r)
  simp (disch := first | omega | assumption | decide | (simp <;> omega) | fail) [facts, ]
  refine (bytes_c (crcN (bodyB r)) 4 G7 (by omega) (by unfold i64In; omega)).mono ?_
  rintro w G8 ⟨hl8, hO⟩
  obtain ⟨aw, cw, rfl, hsw⟩ := hO.sl
  simp (disch := first | omega | assumption | decide | (simp <;> omega) | fail) [facts, e4]
  refine fresh_intro fun b4 hb4 => ?_
  have hl4 := le_upd (.row true 0 [.slice (some ⟨bm, 0, none⟩) 2 2, .slice a5 (bodyB r).length c5, .slice aw (sizeZ 4) cw] 0) hb4
  have hr4 := upd_same G8 b4 (.row true 0 [.slice (some ⟨bm, 0, none⟩) 2 2, .slice a5 (bodyB r).length c5, .slice aw (sizeZ 4) cw] 0)
  simp (disch := first | omega | assumption | decide | (simp <;> omega) | fail) [facts, e4]
  generalize upd G8 b4 (.row true 0 [.slice (some ⟨bm, 0, none⟩) 2 2, .slice a5 (bodyB r).length c5, .slice aw (sizeZ 4) cw] 0) = G9 at *
  have hlenB : Value.int .u8 ((bodyB r).length : Int) = u8V (UInt8.ofNat (bodyB r).length) := by
    unfold u8V
    congr 1
    rw [UInt8.toNat_ofNat']
    omega
  have hcat : catB [⟨some ⟨bm, 0, none⟩, 2, 2, [165, UInt8.ofNat (bodyB r).length]⟩, ⟨a5, (bodyB r).length, c5, bodyB r⟩, ⟨aw, sizeZ 4, cw, bytesL (crcN (bodyB r)) 4⟩] = putB r := by simp [catB, putB]
  have h58 := Heap.le_trans hl8 hl4
  refine (concat_c (some ⟨b4, 0, none⟩) 3 3 [⟨some ⟨bm, 0, none⟩, 2, 2, [165, UInt8.ofNat (bodyB r).length]⟩, ⟨a5, (bodyB r).length, c5, bodyB r⟩, ⟨aw, sizeZ 4, cw, bytesL (crcN (bodyB r)) 4⟩] G9 (SlA.row hr4 (Nat.le_refl _) rfl (by simp) rfl) ?_ (by decide)).mono ?_
  · intro x hx
    simp only [List.mem_cons, List.not_mem_nil, or_false] at hx
    rcases hx with rfl | rfl | rfl
    · refine ⟨SlA.row (h58 _ _ hrm) (Nat.le_refl _) rfl (by simp) ?_, by simp⟩
      simp only [List.map_cons, List.map_nil, Nat.sub_self, List.drop_zero]
      rw [← hlenB]; rfl
    · exact ⟨(hs5.le hlm).le h58, by simp only; omega⟩
    · exact ⟨hsw.le hl4, by show sizeZ 4 ≤ 1000000; decide⟩
  rintro v G10 ⟨R, owR, hLR⟩
  rw [hcat] at hLR
  have hHG : Heap.le H G9 := Heap.le_trans (owF.trans ow5).all (Heap.le_trans hlm h58)
  simp (disch := first | omega | assumption | decide | (simp <;> omega) | fail) [facts, ]
  exact ⟨_, Heap.le_refl _, R, owR.since hHG, hLR⟩
theorem fput_no (r : RZ) (H : Heap) (hr : r.right = false) (hp : r.pan.size ≤ 140737488351232) : ECalls Try.prog 10 #[.agg #[.int .i64 r.kind, .int .u16 r.t, .int .u32 r.s, .string r.pan, .int .i64 r.am, .int .i64 r.ns.a, .int .i64 r.ns.b, .int .i64 r.ns.c, .int .i64 r.ns.d, .int .i64 r.rs.a, .int .i64 r.rs.b, .int .i64 r.rs.c, .int .i64 r.rs.d, .int .i64 r.ls.a, .int .i64 r.ls.b, .int .i64 r.ls.c, .int .i64 r.ls.d]] H fun v H' => v = .tuple #[.slice none 0 0, .int .i64 27] ∧ Heap.le H H' := by
  refine ecalls_of_ewp (args := [_]) Try.func10 rfl rfl rfl (by simp [Try.ntmps10]) (by kernel_rfl) ?_
  simp (disch := first | omega | assumption | decide | (simp <;> omega) | fail) [facts, ]
  refine fresh_intro fun b1 hb1 => ?_
  have hle1 := le_upd (.row true 0 [.int .i64 r.kind, .int .u16 r.t, .int .u32 r.s, .string r.pan, .int .i64 r.am, .int .i64 r.ns.a, .int .i64 r.ns.b, .int .i64 r.ns.c, .int .i64 r.ns.d, .int .i64 r.rs.a, .int .i64 r.rs.b, .int .i64 r.rs.c, .int .i64 r.rs.d, .int .i64 r.ls.a, .int .i64 r.ls.b, .int .i64 r.ls.c, .int .i64 r.ls.d] 0) hb1
  have hrow := upd_same H b1 (.row true 0 [.int .i64 r.kind, .int .u16 r.t, .int .u32 r.s, .string r.pan, .int .i64 r.am, .int .i64 r.ns.a, .int .i64 r.ns.b, .int .i64 r.ns.c, .int .i64 r.ns.d, .int .i64 r.rs.a, .int .i64 r.rs.b, .int .i64 r.rs.c, .int .i64 r.rs.d, .int .i64 r.ls.a, .int .i64 r.ls.b, .int .i64 r.ls.c, .int .i64 r.ls.d] 0)
  generalize upd H b1 (.row true 0 [.int .i64 r.kind, .int .u16 r.t, .int .u32 r.s, .string r.pan, .int .i64 r.am, .int .i64 r.ns.a, .int .i64 r.ns.b, .int .i64 r.ns.c, .int .i64 r.ns.d, .int .i64 r.rs.a, .int .i64 r.rs.b, .int .i64 r.rs.c, .int .i64 r.rs.d, .int .i64 r.ls.a, .int .i64 r.ls.b, .int .i64 r.ls.c, .int .i64 r.ls.d] 0) = H0 at *
  simp (disch := first | omega | assumption | decide | (simp <;> omega) | fail) [facts, hrow]
  refine (right_c r H0 hp).mono ?_
  rintro v H1 ⟨rfl, hle2⟩
  rw [hr]
  simp (disch := first | omega | assumption | decide | (simp <;> omega) | fail) [facts, ]
  exact ⟨_, Heap.le_refl _, Heap.le_trans hle1 hle2⟩
end Go.Proofs.Ytaphlamkpkldgaa.GL
