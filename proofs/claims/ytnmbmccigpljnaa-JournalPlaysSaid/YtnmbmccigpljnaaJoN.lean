/- Layer 5: lists of records held against one another; records of numbers; their size. -/
import Derived.Test.YtnmbmccigpljnaaJoPl
namespace Go.Proofs.Ytnmbmccigpljnaa.GL
open Go Go.RowKit
set_option maxRecDepth 10000
set_option pp.deepTerms.threshold 8
set_option pp.maxSteps 3000
set_option linter.unusedSimpArgs false
set_option linter.unusedVariables false

theorem ba_beq (x y : ByteArray) : (x == y) = decide (x = y) := by
  rw [← mkS_of x, ← mkS_of y, str_beq]
  simp only [mkS_inj]
theorem ba_self (x : ByteArray) : (x == x) = true := by rw [ba_beq]; simp
attribute [simp] ba_self
instance : DecidableEq NZ := fun x y => decidable_of_iff (x.a = y.a ∧ x.b = y.b ∧ x.c = y.c ∧ x.d = y.d) (by cases x; cases y; simp)
instance : DecidableEq RZ := fun x y => decidable_of_iff (x.kind = y.kind ∧ x.t = y.t ∧ x.s = y.s ∧ x.pan = y.pan ∧ x.am = y.am ∧ x.ns = y.ns ∧ x.rs = y.rs ∧ x.ls = y.ls) (by cases x; cases y; simp)
theorem spl_rec (r : RZ) : splice (zeros [Value.int .i64 0, .int .u16 0, .int .u32 0, .string ByteArray.empty, .int .i64 0, .int .i64 0, .int .i64 0, .int .i64 0, .int .i64 0, .int .i64 0, .int .i64 0, .int .i64 0, .int .i64 0, .int .i64 0, .int .i64 0, .int .i64 0, .int .i64 0] 1) 0 [.int .i64 r.kind, .int .u16 r.t, .int .u32 r.s, .string r.pan, .int .i64 r.am, .int .i64 r.ns.a, .int .i64 r.ns.b, .int .i64 r.ns.c, .int .i64 r.ns.d, .int .i64 r.rs.a, .int .i64 r.rs.b, .int .i64 r.rs.c, .int .i64 r.rs.d, .int .i64 r.ls.a, .int .i64 r.ls.b, .int .i64 r.ls.c, .int .i64 r.ls.d] = rowsC RZ.cells [r] := rfl
theorem rec_row {H : Heap} {b : Nat} {r : RZ} (h : H b = some (.row true 0 (rowsC RZ.cells [r]) 0)) : SlA H (some ⟨b, 0, none⟩) 1 17 (rowsC RZ.cells [r]) := SlA.row h (Nat.le_refl _) rfl (Nat.le_refl 17) rfl
def recKs : List SK := [.int, .int, .int, .str, .int, .int, .int, .int, .int, .int, .int, .int, .int, .int, .int, .int, .int]
theorem rec_eq (x y : RZ) : eqCells recKs x.cells y.cells = some (decide (x = y)) := by
  unfold recKs RZ.cells
  simp only [eqC_int, eqC_str, eqC_nil, Option.map_some, ba_beq, Bool.and_true]
  congr 1
  rw [Bool.eq_iff_iff]
  simp only [Bool.and_eq_true, decide_eq_true_eq]
  obtain ⟨k, t, s, pan, am, ⟨a1, a2, a3, a4⟩, ⟨b1, b2, b3, b4⟩, ⟨c1, c2, c3, c4⟩⟩ := x
  obtain ⟨k', t', s', pan', am', ⟨a1', a2', a3', a4'⟩, ⟨b1', b2', b3', b4'⟩, ⟨c1', c2', c3', c4'⟩⟩ := y
  simp only [RZ.mk.injEq, NZ.mk.injEq]
  constructor <;> intro h <;> simp_all
def recsInv (H : Heap) (a c : Option Addr) (n m ca cb : Nat) (xs ys : List RZ) (st : St) : Prop :=
  ∃ k : Nat, k ≤ n ∧ st.heap = H ∧ st.env 0 = .slice a n ca ∧ st.env 1 = .slice c m cb ∧ st.env 5 = .int .i64 k ∧ xs.take k = ys.take k
theorem recs_c (a c : Option Addr) (n m ca cb : Nat) (xs ys : List RZ) (H : Heap) (hx : SlA H a n 17 (rowsC RZ.cells xs)) (hy : SlA H c m 17 (rowsC RZ.cells ys)) (hn : n ≤ 1000000) :
    ECalls Try.prog 19 #[.slice a n ca, .slice c m cb] H fun v H' => v = .bool (decide (xs = ys)) ∧ H' = H := by
  refine ecalls_of_ewp (args := [_, _]) Try.func19 rfl rfl rfl (by simp [Try.ntmps19]) (by kernel_rfl) ?_
  have hlx := hx.els rz17 (by decide)
  have hly := hy.els rz17 (by decide)
  by_cases hnm : n = m
  case neg =>
    have hI : ¬ (n : Int) = (m : Int) := by omega
    simp (disch := first | omega | assumption | decide | (simp <;> omega) | fail) [facts, hI]
    exact fun e => hnm (by rw [← hlx, ← hly, e])
  subst hnm
  simp (disch := first | omega | assumption | decide | (simp <;> omega) | fail) [facts, ]
  refine w_loop (recsInv H a c n n ca cb xs ys) (fun st => n - (intOf (st.env 5)).toNat) ?_ ?_
  · exact ⟨0, Nat.zero_le _, rfl, by simp, by simp, by simp, by simp⟩
  rintro ⟨env, G⟩ ⟨k, hk, hG, e0, e1, e5, ht⟩
  simp only at hG e0 e1 e5
  subst hG
  by_cases hlt : k < n
  case neg =>
    obtain rfl : k = n := by omega
    have hltI : ¬ (k : Int) < (k : Int) := by omega
    rw [List.take_of_length_le (by omega), List.take_of_length_le (by omega)] at ht
    simp (disch := first | omega | assumption | decide | (simp <;> omega) | fail) [facts, e0, e1, e5, hltI]
    exact ht
  have hltI : (k : Int) < (n : Int) := by omega
  obtain ⟨x, hxk⟩ : ∃ x, xs[k]? = some x := ⟨_, List.getElem?_eq_getElem (by omega)⟩
  obtain ⟨y, hyk⟩ : ∃ y, ys[k]? = some y := ⟨_, List.getElem?_eq_getElem (by omega)⟩
  obtain ⟨b1, o1, rfl⟩ := hx.lit (by omega)
  obtain ⟨b2, o2, rfl⟩ := hy.lit (by omega)
  have q1 := hx.el rz17 hxk (j := 0) (r := 17) (by decide) (by decide)
  rw [List.drop_zero, List.take_of_length_le (by rw [rz17]; decide), Nat.add_zero] at q1
  have q2 := hy.el rz17 hyk (j := 0) (r := 17) (by decide) (by decide)
  rw [List.drop_zero, List.take_of_length_le (by rw [rz17]; decide), Nat.add_zero] at q2
  have hq := rec_eq x y
  unfold recKs at hq
  simp (disch := first | omega | assumption | decide | (simp <;> omega) | fail) [facts, e0, e1, e5, hltI]
  refine w_plan (by simp [facts]) (opsP [0,1,2,3,4,5,6,7,8] .done) (by decide +kernel) ?_
  by_cases hxy : x = y
  · rw [decide_eq_true hxy] at hq
    have hnx : xs.take (k + 1) = ys.take (k + 1) := by rw [List.take_add_one, List.take_add_one, hxk, hyk, ht, hxy]
    simp (disch := first | omega | assumption | decide | (simp <;> omega) | fail) [facts, e0, e1, e5, hltI, q1, q2, hq]
    exact ⟨_, Heap.le_refl _, ⟨k + 1, by omega, rfl, by simp [e0], by simp [e1], by simp, hnx⟩, by simp [intOf, e5]; omega⟩
  · rw [decide_eq_false hxy] at hq
    simp (disch := first | omega | assumption | decide | (simp <;> omega) | fail) [facts, e0, e1, e5, hltI, q1, q2, hq]
    intro e
    rw [e, hyk] at hxk
    cases hxk
    exact hxy rfl
theorem begins_c (a c : Option Addr) (n m ca cb : Nat) (xs ys : List RZ) (H : Heap) (hx : SlA H a n 17 (rowsC RZ.cells xs)) (hy : SlA H c m 17 (rowsC RZ.cells ys)) (hn : n ≤ 1000000) (hcb : m ≤ cb) :
    ECalls Try.prog 24 #[.slice a n ca, .slice c m cb] H fun v H' => v = .bool (decide (xs <+: ys)) ∧ H' = H := by
  refine ecalls_of_ewp (args := [_, _]) Try.func24 rfl rfl rfl (by simp [Try.ntmps24]) (by kernel_rfl) ?_
  have hlx := hx.els rz17 (by decide)
  have hly := hy.els rz17 (by decide)
  by_cases hnm : n ≤ m
  case neg =>
    have hI : ¬ (n : Int) ≤ (m : Int) := by omega
    simp (disch := first | omega | assumption | decide | (simp <;> omega) | fail) [facts, hI]
    intro e
    have := e.length_le
    omega
  have hI : (n : Int) ≤ (m : Int) := by omega
  have hcut : SlA H c n 17 (rowsC RZ.cells (ys.take n)) := by
    have := hy.take hnm
    rwa [rowsC_take rz17] at this
  have hc := fun ca cb => recs_c a c n n ca cb xs (ys.take n) H hx hcut hn
  have e : decide (xs = ys.take n) = decide (xs <+: ys) := by
    rw [Bool.eq_iff_iff, decide_eq_true_eq, decide_eq_true_eq, ← hlx]
    exact List.prefix_iff_eq_take.symm
  rw [e] at hc
  simp (disch := first | omega | assumption | decide | (simp <;> omega) | fail) [facts, hI]
  refine (hc _ _).mono ?_
  rintro v H' ⟨rfl, rfl⟩
  simp (disch := first | omega | assumption | decide | (simp <;> omega) | fail) [facts, ]
/-- The statements' records of numbers. -/
def madeZ (n k : Nat) : List RZ := (List.range n).map fun i => recS ((k + i) % 256) k i (k * 7 + i)
theorem madeZ_len (n k : Nat) : (madeZ n k).length = n := by simp [madeZ]
theorem madeZ_succ (n k : Nat) : madeZ (n + 1) k = madeZ n k ++ [recS ((k + n) % 256) k n (k * 7 + n)] := by
  unfold madeZ; rw [List.range_succ, List.map_append]; rfl
theorem recS_good (a b c d : Nat) (h2 : b < 256) (h3 : c < 256) : (recS a b c d).good := recS_right a b c d h2 h3
theorem madeZ_good {n k : Nat} (hk : k < 256) (hn : n ≤ 256) : ∀ r ∈ madeZ n k, r.good := fun r hr => by
  unfold madeZ at hr
  obtain ⟨i, hi, rfl⟩ := List.mem_map.1 hr
  have := List.mem_range.1 hi
  exact recS_good _ _ _ _ hk (by omega)
def madeInv (H : Heap) (n k : Nat) (st : St) : Prop :=
  ∃ (i : Nat) (B : Heap) (v : Value), i ≤ n ∧ st.env 0 = .int .u8 n ∧ st.env 1 = .int .u8 k ∧ st.env 4 = .slice none 0 0 ∧ st.env 5 = v ∧ st.env 6 = .int .u8 i ∧ Own H (fun _ => none) st.heap B ∧ LstR B v 17 i (rowsC RZ.cells (madeZ i k))
set_option maxHeartbeats 1600000 in
theorem made_c (n k : Nat) (hn : n < 256) (hk : k < 256) (H : Heap) :
    ECalls Try.prog 14 #[.int .u8 n, .int .u8 k] H fun v H' => ∃ B, Own H (fun _ => none) H' B ∧ LstR B v 17 n (rowsC RZ.cells (madeZ n k)) := by
  refine ecalls_of_ewp (args := [_, _]) Try.func14 rfl rfl rfl (by simp [Try.ntmps14]) (by kernel_rfl) ?_
  simp (disch := first | omega | assumption | decide | (simp <;> omega) | fail) [facts, ]
  refine w_loop (madeInv H n k) (fun st => n - (intOf (st.env 6)).toNat) ?_ ?_
  · exact ⟨0, fun _ => none, .slice none 0 0, Nat.zero_le _, by simp, by simp, by simp, by simp, by simp, Own.nil (Heap.le_refl H), LstR.nil _ _⟩
  rintro ⟨env, G⟩ ⟨i, B, v, hi, e0, e1, e4, e5, e6, own, lb⟩
  simp only at e0 e1 e4 e5 e6 own
  by_cases hlt : i < n
  case neg =>
    obtain rfl : i = n := by omega
    have hltI : ¬ (i : Int) < (i : Int) := by omega
    simp (disch := first | omega | assumption | decide | (simp <;> omega) | fail) [facts, e0, e1, e4, e5, e6, hltI]
    exact ⟨_, Heap.le_refl _, B, own, lb⟩
  have hltI : (i : Int) < (n : Int) := by omega
  obtain ⟨q, hq⟩ : ∃ q, q = (k + i) % 256 := ⟨_, rfl⟩
  have hqI : IntKind.wrap .u8 ((k : Int) + (i : Int)) = (q : Int) := by
    rw [IntKind.wrap_u8]; omega
  obtain ⟨w, hw⟩ : ∃ w, w = k * 7 + i := ⟨_, rfl⟩
  have hwI : (k : Int) * 7 + (i : Int) = (w : Int) := by omega
  obtain ⟨r, hr⟩ : ∃ r, r = recS q k i w := ⟨_, rfl⟩
  have hc := fun H => rec_c q k i w (by omega) hk (by omega) (by omega) H r hr
  have hnx : madeZ (i + 1) k = madeZ i k ++ [r] := by rw [madeZ_succ, hr, hq, hw]
  simp (disch := first | omega | assumption | decide | (simp <;> omega) | fail) [facts, e0, e1, e4, e5, e6, hltI, hqI, hwI]
  refine (hc _).mono ?_
  rintro v1 G1 ⟨rfl, hl1⟩
  replace own := own.grow hl1
  simp (disch := first | omega | assumption | decide | (simp <;> omega) | fail) [facts, e0, e1, e4, e5, e6]
  refine fresh_intro fun b6 hb6 => ?_
  simp (disch := first | omega | assumption | decide | (simp <;> omega) | fail) [facts, upd_upd]
  rw [spl_rec r]
  have hsl := rec_row (upd_same G1 b6 (.row true 0 (rowsC RZ.cells [r]) 0))
  replace own := own.grow (le_upd (.row true 0 (rowsC RZ.cells [r]) 0) hb6)
  generalize upd G1 b6 (.row true 0 (rowsC RZ.cells [r]) 0) = G2 at *
  refine LstR.app (e := 42) (s := 17) (nbs := 136) (z := .agg #[.int .i64 0, .int .u16 0, .int .u32 0, .string ByteArray.empty, .int .i64 0, .int .i64 0, .int .i64 0, .int .i64 0, .int .i64 0, .int .i64 0, .int .i64 0, .int .i64 0, .int .i64 0, .int .i64 0, .int .i64 0, .int .i64 0, .int .i64 0]) (m := 1) (ys := rowsC RZ.cells [r]) (by simp [facts]) (by simp [facts]) (by simp [facts]) (by simp [facts]) rfl (by decide) lb own
    (src_sl (e1 := 42) (z := .agg #[.int .i64 0, .int .u16 0, .int .u32 0, .string ByteArray.empty, .int .i64 0, .int .i64 0, .int .i64 0, .int .i64 0, .int .i64 0, .int .i64 0, .int .i64 0, .int .i64 0, .int .i64 0, .int .i64 0, .int .i64 0, .int .i64 0, .int .i64 0]) (by simp [facts]) (by simp [facts]) (by simp [facts]) hsl) rfl (rows_one [r]) (by omega) ?_
  intro v' G3 B' own3 lb3 _ _
  rw [← rows_app, ← hnx] at lb3
  have hwr : IntKind.wrap .u8 ((i : Int) + 1) = ((i + 1 : Nat) : Int) := by
    rw [IntKind.wrap_u8]; omega
  simp (disch := first | omega | assumption | decide | (simp <;> omega) | fail) [facts, e0, e1, e4, e5, e6]
  exact ⟨_, Heap.le_refl _, ⟨i + 1, B', v', by omega, by simp [e0], by simp [e1], by simp [e4], by simp, by simp [hwr], own3, lb3⟩, by simp [intOf, e6, hwr]; omega⟩
def sizeInv (H : Heap) (a : Option Addr) (n c : Nat) (rs : List RZ) (st : St) : Prop :=
  ∃ k : Nat, k ≤ n ∧ Heap.le H st.heap ∧ st.env 0 = .slice a n c ∧ st.env 3 = .int .i64 (framesB (rs.take k)).length ∧ st.env 4 = .int .i64 k
set_option maxHeartbeats 1600000 in
theorem size_c (a : Option Addr) (n c : Nat) (rs : List RZ) (H : Heap) (h : SlA H a n 17 (rowsC RZ.cells rs)) (hg : ∀ r ∈ rs, r.good) (hn : n ≤ 100000) :
    ECalls Try.prog 15 #[.slice a n c] H fun v H' => v = .int .i64 (framesB rs).length ∧ Heap.le H H' := by
  refine ecalls_of_ewp (args := [_]) Try.func15 rfl rfl rfl (by simp [Try.ntmps15]) (by kernel_rfl) ?_
  have hlen := h.els rz17 (by decide)
  have hl : ∀ r ∈ rs, (putB r).length ≤ 300 := fun r hr => by have := (putB_len (hg r hr).1).2; omega
  simp (disch := first | omega | assumption | decide | (simp <;> omega) | fail) [facts, ]
  refine w_loop (sizeInv H a n c rs) (fun st => n - (intOf (st.env 4)).toNat) ?_ ?_
  · exact ⟨0, Nat.zero_le _, Heap.le_refl _, by simp, by simp [framesB], by simp⟩
  rintro ⟨env, G⟩ ⟨k, hk, hG, e0, e3, e4⟩
  simp only at hG e0 e3 e4
  by_cases hlt : k < n
  case neg =>
    obtain rfl : k = n := by omega
    have hltI : ¬ (k : Int) < (k : Int) := by omega
    rw [List.take_of_length_le (by omega)] at e3
    simp (disch := first | omega | assumption | decide | (simp <;> omega) | fail) [facts, e0, e3, e4, hltI]
    exact ⟨_, Heap.le_refl _, hG⟩
  have hltI : (k : Int) < (n : Int) := by omega
  obtain ⟨r, hr⟩ : ∃ r, rs[k]? = some r := ⟨_, List.getElem?_eq_getElem (by omega)⟩
  have hrm := List.mem_of_getElem? hr
  have hsn := framesB_snoc rs hr
  have hfl := framesB_take_le rs hl k
  have hrl := hl r hrm
  obtain ⟨bb, oo, rfl⟩ := h.lit (by omega)
  have hel := (h.le hG).el rz17 hr (j := 0) (r := 17) (by decide) (by decide)
  rw [List.drop_zero, List.take_of_length_le (by rw [rz17]; decide), Nat.add_zero] at hel
  unfold RZ.cells at hel
  have hput := fun H => rput_c r H (hg r hrm).1 (hg r hrm).2
  simp (disch := first | omega | assumption | decide | (simp <;> omega) | fail) [facts, e0, e3, e4, hltI, hel]
  refine (hput _).mono ?_
  rintro w G2 ⟨sv, rfl, R, own2, lb2⟩
  have hG2 := Heap.le_trans hG own2.all
  obtain ⟨va, vc, rfl, _, _⟩ := LstR.sl lb2 (Heap.le_refl R)
  have hsz : ((framesB (rs.take k)).length : Int) + ((putB r).length : Int) = ((framesB (rs.take (k + 1))).length : Int) := by rw [hsn, List.length_append]; omega
  simp (disch := first | omega | assumption | decide | (simp <;> omega) | fail) [facts, e0, e3, e4, hsz]
  exact ⟨_, Heap.le_refl _, ⟨k + 1, by omega, hG2, by simp [e0], by simp, by simp⟩, by simp [intOf, e4]; omega⟩
end Go.Proofs.Ytnmbmccigpljnaa.GL
