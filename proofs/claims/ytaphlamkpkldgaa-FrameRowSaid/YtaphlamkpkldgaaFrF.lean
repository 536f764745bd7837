/- Layer 4: slices.Grow, slices.Concat of bytes. -/
import Derived.Test.YtaphlamkpkldgaaFrE
namespace Go.Proofs.Ytaphlamkpkldgaa.GL
open Go Go.RowKit
set_option maxRecDepth 10000
set_option pp.deepTerms.threshold 8
set_option pp.maxSteps 3000
set_option linter.unusedSimpArgs false
set_option linter.unusedVariables false

theorem Out.own {H H' : Heap} {v : Value} {s n : Nat} {cs : List Value} (h : Out H H' v s n cs) (hle : Heap.le H H') : ∃ R, Own H (fun _ => none) H' R ∧ LstR R v s n cs := by
  rcases h with ⟨rfl, rfl, rfl⟩ | ⟨b, o, cap, room, hb, hO⟩
  · exact ⟨_, Own.nil hle, .inl ⟨rfl, rfl, rfl⟩⟩
  · refine ⟨upd (fun _ => none) b (.row true o cs room), ⟨fun i x _ hi => ⟨by rw [upd_ne _ _ (ne_of_fresh hb hi)], hle _ _ hi⟩, fun i x hi => ?_⟩, ?_⟩
    · by_cases hib : i = b
      · subst hib; rw [upd_same] at hi; cases hi; exact hO.row
      · rw [upd_ne _ _ hib] at hi; cases hi
    · exact .inr ⟨b, o, cap, [], room, hO.is, by rw [upd_same]; simp, hO.len, hO.capOk, by simpa using hO.fits⟩
/-- The first ones, with the room behind. -/
theorem LstR.cutc {B : Heap} {b o cap s n k : Nat} {cs : List Value} (h : LstR B (.slice (some ⟨b, o, none⟩) n cap) s n cs) (hk : k ≤ n) : LstR B (.slice (some ⟨b, o, none⟩) k cap) s k (cs.take (k * s)) := by
  rcases h with ⟨h, _⟩ | ⟨b', o', cap', tail, room, hv, hr, hlen, hc, hf⟩
  · cases h
  · simp only [Value.slice.injEq, Option.some.injEq, Addr.mk.injEq, true_and] at hv
    obtain ⟨⟨rfl, rfl, _⟩, rfl⟩ := hv
    have hks : k * s ≤ n * s := Nat.mul_le_mul_right _ hk
    refine .inr ⟨b, o, cap, cs.drop (k * s) ++ tail, room, rfl, by rw [← List.append_assoc, List.take_append_drop]; exact hr, by rw [List.length_take]; omega, by omega, ?_⟩
    rw [List.length_append, List.length_drop]; omega
theorem grow_c (H : Heap) (n : Nat) (hn : n ≤ 10000000) : ECalls Try.prog 32 #[.slice none 0 0, .int .i64 n] H fun v H' => ∃ R, Own H (fun _ => none) H' R ∧ LstR R v 1 0 [] := by
  refine ecalls_of_ewp (args := [_, _]) Try.func32 rfl rfl rfl (by simp [Try.ntmps32]) (by kernel_rfl) ?_
  have n0 : ¬ (n : Int) < 0 := by omega
  by_cases h0 : 0 < n
  · have h0I : (0 : Int) < (n : Int) := by omega
    simp (disch := first | omega | assumption | decide | (simp <;> omega) | fail) [facts, n0, h0I, h0]
    refine (LstR.nil (fun _ => none) 1).app (H0 := H) (B0 := fun _ => none) (e := 5) (s := 1) (nbs := 1) (z := .int .u8 0) (m := n) (ys := zeros [.int .u8 0] n) (by simp [facts]) (by simp [facts]) (by simp [facts]) (by simp [facts]) rfl (by decide) (Own.nil (Heap.le_refl H)) ?_ (by simp) (by simp [zeros, Value.oneCell']) (by omega) ?_
    · have := src_zeros (P := Try.prog) (H := H) (e := 5) (t1 := 3) (k := .i64) (k' := .i64) (l := (n : Int)) (z := .int .u8 0) (s := 1) (by simp [facts]) (by simp [facts]) (by simp [facts]) (by omega) (by omega)
      simpa using this
    · intro v' H' R' ow hl _ _
      rcases hl with ⟨_, hc, _⟩ | ⟨b, o, cap, tail, room, rfl, hr, hlen, hc, hf⟩
      · omega
      have hL : LstR R' (.slice (some ⟨b, o, none⟩) (0 + n) cap) 1 (0 + n) ([] ++ zeros [.int .u8 0] n) := .inr ⟨b, o, cap, tail, room, rfl, hr, hlen, hc, hf⟩
      simp (disch := first | omega | assumption | decide | (simp <;> omega) | fail) [facts, ]
      have := hL.cutc (k := 0) (Nat.zero_le _)
      refine ⟨_, Heap.le_refl _, R', ow, ?_⟩
      simpa using this
  · have hn0 : n = 0 := by omega
    subst hn0
    simp (disch := first | omega | assumption | decide | (simp <;> omega) | fail) [facts, ]
    exact ⟨_, Heap.le_refl _, _, Own.nil (Heap.le_refl H), LstR.nil _ _⟩
structure SZ where
  a : Option Addr
  n : Nat
  c : Nat
  bs : List UInt8
def SZ.cells (x : SZ) : List Value := [.slice x.a x.n x.c]
theorem s1 (x : SZ) : x.cells.length = 1 := rfl
def catB (xs : List SZ) : List UInt8 := (xs.map (·.bs)).flatten
theorem catB_step {xs : List SZ} {k : Nat} {x : SZ} (h : xs[k]? = some x) : catB (xs.take (k + 1)) = catB (xs.take k) ++ x.bs := by
  unfold catB; rw [List.take_add_one, h]; simp
def cc1Inv (H : Heap) (a : Option Addr) (n c : Nat) (xs : List SZ) (st : St) : Prop :=
  ∃ k : Nat, k ≤ n ∧ st.env 0 = .slice a n c ∧ st.env 9 = .slice a n c ∧ st.env 10 = .int .i64 n ∧ st.env 11 = .int .i64 k ∧ st.env 3 = .int .i64 (catB (xs.take k)).length ∧ st.heap = H
def cc2Inv (H : Heap) (a : Option Addr) (n c : Nat) (xs : List SZ) (st : St) : Prop :=
  ∃ (k : Nat) (R : Heap), k ≤ n ∧ st.env 25 = .slice a n c ∧ st.env 26 = .int .i64 n ∧ st.env 27 = .int .i64 k ∧ Own H (fun _ => none) st.heap R ∧ LstR R (st.env 6) 1 (catB (xs.take k)).length ((catB (xs.take k)).map u8V)
theorem catB_le {xs : List SZ} {n : Nat} (hb : ∀ x ∈ xs, x.bs.length ≤ 1000000) (k : Nat) : (catB (xs.take k)).length ≤ k * 1000000 := by
  induction k with
  | zero => simp [catB]
  | succ k ih =>
    cases hx : xs[k]? with
    | none =>
      have : xs.length ≤ k := by simpa using hx
      rw [List.take_of_length_le (by omega)] at ih ⊢
      exact Nat.le_trans ih (Nat.mul_le_mul_right _ (Nat.le_succ k))
    | some x =>
      rw [catB_step hx, List.length_append]
      have := hb x (List.mem_of_getElem? hx)
      rw [Nat.succ_mul]
      exact Nat.add_le_add ih this
theorem concat_c (a : Option Addr) (n c : Nat) (xs : List SZ) (H : Heap) (h : SlA H a n 1 (rowsC SZ.cells xs)) (hd : ∀ x ∈ xs, SlA H x.a x.n 1 (x.bs.map u8V) ∧ x.n ≤ 1000000) (hn : n ≤ 8) :
    ECalls Try.prog 20 #[.slice a n c] H fun v H' => ∃ R, Own H (fun _ => none) H' R ∧ LstR R v 1 (catB xs).length ((catB xs).map u8V) := by
  refine ecalls_of_ewp (args := [_]) Try.func20 rfl rfl rfl (by simp [Try.ntmps20]) (by kernel_rfl) ?_
  have hl : xs.length = n := h.els s1 (by decide)
  have hlen : ∀ x ∈ xs, x.bs.length = x.n := fun x hx => by simpa using (hd x hx).1.len
  have hcat := catB_le (xs := xs) (n := n) (fun x hx => by rw [hlen x hx]; exact (hd x hx).2)
  simp (disch := first | omega | assumption | decide | (simp <;> omega) | fail) [facts, ]
  refine w_loop (cc1Inv H a n c xs) (fun st => n - (intOf (st.env 11)).toNat) ?_ ?_
  · exact ⟨0, Nat.zero_le _, by simp, by simp, by simp, by simp, by simp [catB], rfl⟩
  rintro ⟨env, G⟩ ⟨k, hk, e0, e9, e10, e11, e3, hG⟩
  simp only at e0 e9 e10 e11 e3 hG
  subst hG
  by_cases hlt : k < n
  · have hltI : (k : Int) < (n : Int) := by omega
    obtain ⟨x, hx⟩ : ∃ x, xs[k]? = some x := ⟨_, List.getElem?_eq_getElem (by omega)⟩
    obtain ⟨ab, ao, rfl⟩ := h.lit (by omega)
    have rx : rd1U (G ab) (ao + k) = some (.slice x.a x.n x.c) := by
      have := h.el1 s1 hx (j := 0) (by decide)
      simpa [SZ.cells] using this
    have hst := catB_step hx
    have h1 := hcat k
    have h2 := hcat (k + 1)
    have hxl := hlen x (List.mem_of_getElem? hx)
    have hxn := (hd x (List.mem_of_getElem? hx)).2
    have hln : (catB (xs.take (k + 1))).length = (catB (xs.take k)).length + x.n := by rw [hst, List.length_append, hxl]
    obtain ⟨S, hS⟩ : ∃ S, S = (catB (xs.take k)).length := ⟨_, rfl⟩
    rw [← hS] at e3 h1 hln
    have hno : ¬ (S : Int) + (x.n : Int) < 0 := by omega
    simp (disch := first | omega | assumption | decide | (simp <;> omega) | fail) [facts, e0, e9, e10, e11, e3, hltI, rx, hno]
    exact ⟨_, Heap.le_refl _, ⟨k + 1, by omega, by simp [e0], by simp [e9], by simp [e10], by simp, by rw [hln]; simp, rfl⟩, by simp [intOf, e11]; omega⟩
  have hkn : k = n := by omega
  subst hkn
  rw [List.take_of_length_le (by omega)] at e3
  have hall := hcat k
  rw [List.take_of_length_le (by omega)] at hall
  simp (disch := first | omega | assumption | decide | (simp <;> omega) | fail) [facts, e0, e9, e10, e11, e3]
  refine (grow_c G (catB xs).length (by omega)).mono ?_
  rintro v G1 ⟨R1, ow1, hl1⟩
  simp (disch := first | omega | assumption | decide | (simp <;> omega) | fail) [facts, e0]
  refine w_loop (cc2Inv G a k c xs) (fun st => k - (intOf (st.env 27)).toNat) ?_ ?_
  · exact ⟨0, R1, Nat.zero_le _, by simp [e0], by simp, by simp, ow1, by simpa [catB] using hl1⟩
  clear e0 e9 e10 e11 e3 ow1 hl1
  rintro ⟨env2, G2⟩ ⟨m, R, hm, e25, e26, e27, ow, hls⟩
  simp only at e25 e26 e27 ow hls
  by_cases hlt2 : m < k
  · have hltI : (m : Int) < (k : Int) := by omega
    obtain ⟨x, hx⟩ : ∃ x, xs[m]? = some x := ⟨_, List.getElem?_eq_getElem (by omega)⟩
    obtain ⟨ab, ao, rfl⟩ := h.lit (by omega)
    have rx : rd1U (G2 ab) (ao + m) = some (.slice x.a x.n x.c) := by
      have := (h.le ow.all).el1 s1 hx (j := 0) (by decide)
      simpa [SZ.cells] using this
    have hst := catB_step hx
    have hxl := hlen x (List.mem_of_getElem? hx)
    obtain ⟨hxd, hxn⟩ := hd x (List.mem_of_getElem? hx)
    have hcm := hcat m
    generalize e6 : env2 6 = sv at hls
    simp (disch := first | omega | assumption | decide | (simp <;> omega) | fail) [facts, e25, e26, e27, e6, hltI, rx]
    refine hls.app (H0 := G) (B0 := fun _ => none) (e := 5) (s := 1) (nbs := 1) (z := .int .u8 0) (m := x.n) (ys := x.bs.map u8V) (by simp [facts]) (by simp [facts]) (by simp [facts]) (by simp [facts]) rfl (by decide) ow
      (src_sl (e1 := 5) (z := .int .u8 0) (by simp [facts]) (by simp [facts]) (by simp [facts]) (hxd.le ow.all)) (by simp [hxl]) (by simp [u8V, Value.oneCell']) (by omega) ?_
    intro v' H' R' ow' hl' _ _
    simp (disch := first | omega | assumption | decide | (simp <;> omega) | fail) [facts, e27]
    refine ⟨_, Heap.le_refl _, ⟨m + 1, R', by omega, by simp [e25], by simp [e26], by simp, ow', ?_⟩, by simp [intOf, e27]; omega⟩
    rw [hst, List.length_append, List.map_append, hxl]
    simpa using hl'
  · have hmk : m = k := by omega
    subst hmk
    rw [List.take_of_length_le (by omega)] at hls
    generalize e6 : env2 6 = sv at hls
    simp (disch := first | omega | assumption | decide | (simp <;> omega) | fail) [facts, e25, e26, e27, e6]
    exact ⟨_, Heap.le_refl _, R, ow, hls⟩
end Go.Proofs.Ytaphlamkpkldgaa.GL
