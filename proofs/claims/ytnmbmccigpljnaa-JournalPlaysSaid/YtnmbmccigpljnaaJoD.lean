/- Layer 5: a journal's small functions; records' bytes. -/
import Derived.Test.YtnmbmccigpljnaaJoC
namespace Go.Proofs.Ytnmbmccigpljnaa.GL
open Go Go.RowKit
set_option maxRecDepth 10000
set_option pp.deepTerms.threshold 8
set_option pp.maxSteps 3000
set_option linter.unusedSimpArgs false
set_option linter.unusedVariables false

def RZ.cells (r : RZ) : List Value := [.int .i64 r.kind, .int .u16 r.t, .int .u32 r.s, .string r.pan, .int .i64 r.am, .int .i64 r.ns.a, .int .i64 r.ns.b, .int .i64 r.ns.c, .int .i64 r.ns.d, .int .i64 r.rs.a, .int .i64 r.rs.b, .int .i64 r.rs.c, .int .i64 r.rs.d, .int .i64 r.ls.a, .int .i64 r.ls.b, .int .i64 r.ls.c, .int .i64 r.ls.d]
theorem rz17 (r : RZ) : r.cells.length = 17 := rfl
theorem rzone (r : RZ) : r.cells.all (·.oneCell') = true := rfl
structure LZ where
  half : Nat
  base : Nat
  used : Nat
  last : Nat
  recs : List RZ
/-- A journal's memory (its disk is another object). -/
structure Lg (R : Heap) (p pd : Nat) (l : LZ) (v : Value) : Prop where
  row : R p = some (.row true 0 (lgRow pd l.half l.base l.used l.last v) 0)
  recs : LstR R v 17 l.recs.length (rowsC RZ.cells l.recs)
  ne : blkV v ≠ some p
  half : l.half ≤ 1200
  used : l.used ≤ l.half
  base : l.base ≤ l.half
  last : l.last < 4294967295
section
variable {H R : Heap} {p pd : Nat} {l : LZ} {lv : Value}
theorem jfree_c (hR : Heap.le R H) (h : Lg R p pd l lv) : ECalls Try.prog 13 #[.pointer (some ⟨p, 0, none⟩)] H fun v H' => v = .int .i64 (((l.half - l.used) * 51 : Nat) : Int) ∧ H' = H := by
  refine ecalls_of_ewp (args := [_]) Try.func13 rfl rfl rfl (by simp [Try.ntmps13]) (by kernel_rfl) ?_
  have rp := hR _ _ h.row
  have h1 := h.half
  have h2 := h.used
  obtain ⟨m, hm⟩ : ∃ m, m = l.half - l.used := ⟨_, rfl⟩
  have hmI : (l.half : Int) - (l.used : Int) = (m : Int) := by omega
  unfold lgRow at rp
  rw [← hm]
  simp (disch := first | omega | assumption | decide | (simp <;> omega) | fail) [facts, ]
  refine w_plan (by simp [facts]) (opsP [0,1,2,3,4,5,6,7,8,9,10] .done) (by decide +kernel) ?_
  simp (disch := first | omega | assumption | decide | (simp <;> omega) | fail) [facts, rp, hmI]
theorem jlen_c (hR : Heap.le R H) (h : Lg R p pd l lv) : ECalls Try.prog 17 #[.pointer (some ⟨p, 0, none⟩)] H fun v H' => v = .int .i64 (l.recs.length : Nat) ∧ H' = H := by
  refine ecalls_of_ewp (args := [_]) Try.func17 rfl rfl rfl (by simp [Try.ntmps17]) (by kernel_rfl) ?_
  have rp := hR _ _ h.row
  obtain ⟨a, c, rfl, _, _⟩ := LstR.sl h.recs (Heap.le_refl R)
  unfold lgRow at rp
  simp (disch := first | omega | assumption | decide | (simp <;> omega) | fail) [facts, rp]
end
def secsN (n : Nat) : Nat := max ((n + 50) / 51) 1
theorem jsectors_c (a : Option Addr) (n c : Nat) (H : Heap) (hn : n ≤ 1000000000) : ECalls Try.prog 32 #[.slice a n c] H fun v H' => v = .int .i64 (secsN n : Nat) ∧ H' = H := by
  refine ecalls_of_ewp (args := [_]) Try.func32 rfl rfl rfl (by simp [Try.ntmps32]) (by kernel_rfl) ?_
  have h1 : max (((n : Int) + 51 - 1) / 51) 1 = ((secsN n : Nat) : Int) := by unfold secsN; omega
  obtain ⟨m, hm⟩ : ∃ m, m = secsN n := ⟨_, rfl⟩
  rw [← hm] at h1 ⊢
  simp (disch := first | omega | assumption | decide | (simp <;> omega) | fail) [facts, h1]
def framesB (rs : List RZ) : List UInt8 := (rs.map putB).flatten
theorem framesB_snoc (rs : List RZ) {k : Nat} {r : RZ} (h : rs[k]? = some r) : framesB (rs.take (k + 1)) = framesB (rs.take k) ++ putB r := by
  unfold framesB
  rw [List.take_add_one, h, List.map_append, List.flatten_append]
  simp
def frmsInv (H : Heap) (a : Option Addr) (n c : Nat) (rs : List RZ) (st : St) : Prop :=
  ∃ (k : Nat) (B : Heap) (v : Value), k ≤ n ∧ st.env 2 = .slice none 0 0 ∧ st.env 3 = .int .i64 0 ∧ st.env 4 = v ∧ st.env 9 = .slice a n c ∧ st.env 10 = .int .i64 n ∧ st.env 11 = .int .i64 k ∧ Own H (fun _ => none) st.heap B ∧ LB B v (framesB (rs.take k))
def RZ.good (r : RZ) : Prop := r.right = true ∧ r.wf
theorem putB_len {r : RZ} (h : r.right = true) : 42 ≤ (putB r).length ∧ (putB r).length ≤ 61 := by
  have hp : r.pan.size ≤ 19 := by
    unfold RZ.right at h
    simp only [Bool.and_eq_true, decide_eq_true_eq] at h
    omega
  have hl : (putB r).length = 6 + (bodyB r).length := by
    unfold putB
    simp [bytesL_len]
    omega
  rw [hl, bodyB_len]
  omega
theorem framesB_take_le (rs : List RZ) (hl : ∀ r ∈ rs, (putB r).length ≤ 300) : ∀ k, (framesB (rs.take k)).length ≤ 300 * k
  | 0 => by simp [framesB]
  | k + 1 => by
    have ih := framesB_take_le rs hl k
    cases h : rs[k]? with
    | none =>
      rw [List.take_add_one, h]
      simp
      omega
    | some r =>
      rw [framesB_snoc rs h, List.length_append]
      have := hl r (List.mem_of_getElem? h)
      omega
set_option maxHeartbeats 1600000 in
theorem jframes_c (a : Option Addr) (n c : Nat) (rs : List RZ) (H : Heap) (h : SlA H a n 17 (rowsC RZ.cells rs)) (hg : ∀ r ∈ rs, r.good) (hn : n ≤ 100000) :
    ECalls Try.prog 31 #[.slice a n c] H fun v H' => ∃ sv B, v = .tuple #[sv, .int .i64 0] ∧ Own H (fun _ => none) H' B ∧ LB B sv (framesB rs) := by
  refine ecalls_of_ewp (args := [_]) Try.func31 rfl rfl rfl (by simp [Try.ntmps31]) (by kernel_rfl) ?_
  have hlen := h.els rz17 (by decide)
  have hl : ∀ r ∈ rs, (putB r).length ≤ 300 := fun r hr => by have := (putB_len (hg r hr).1).2; omega
  simp (disch := first | omega | assumption | decide | (simp <;> omega) | fail) [facts, ]
  refine w_loop (frmsInv H a n c rs) (fun st => n - (intOf (st.env 11)).toNat) ?_ ?_
  · exact ⟨0, fun _ => none, .slice none 0 0, Nat.zero_le _, by simp, by simp, by simp, by simp, by simp, by simp, Own.nil (Heap.le_refl H), LstR.nil _ _⟩
  rintro ⟨env, G⟩ ⟨k, B, v, hk, e2, e3, e4, e9, e10, e11, own, lb⟩
  simp only at e2 e3 e4 e9 e10 e11 own
  by_cases hlt : k < n
  case neg =>
    obtain rfl : k = n := by omega
    have hltI : ¬ (k : Int) < (k : Int) := by omega
    rw [List.take_of_length_le (by omega)] at lb
    simp (disch := first | omega | assumption | decide | (simp <;> omega) | fail) [facts, e2, e3, e4, e9, e10, e11, hltI]
    exact ⟨_, Heap.le_refl _, B, own, lb⟩
  have hltI : (k : Int) < (n : Int) := by omega
  obtain ⟨r, hr⟩ : ∃ r, rs[k]? = some r := ⟨_, List.getElem?_eq_getElem (by omega)⟩
  have hrm := List.mem_of_getElem? hr
  have hsn := framesB_snoc rs hr
  have hfl := framesB_take_le rs hl k
  have hrl := hl r hrm
  obtain ⟨bb, oo, rfl⟩ := h.lit (by omega)
  have hG : Heap.le H G := own.all
  have hel := (h.le hG).el rz17 hr (j := 0) (r := 17) (by decide) (by decide)
  rw [List.drop_zero, List.take_of_length_le (by rw [rz17]; decide), Nat.add_zero] at hel
  unfold RZ.cells at hel
  have hput := fun H => fput_c r H (hg r hrm).1 (hg r hrm).2
  simp (disch := first | omega | assumption | decide | (simp <;> omega) | fail) [facts, e2, e3, e4, e9, e10, e11, hltI, hel]
  refine fresh_intro fun b6 hb6 => ?_
  simp (disch := first | omega | assumption | decide | (simp <;> omega) | fail) [facts, upd_upd]
  replace own := own.grow (le_upd (.row true 0 [.int .i64 r.kind, .int .u16 r.t, .int .u32 r.s, .string r.pan, .int .i64 r.am, .int .i64 r.ns.a, .int .i64 r.ns.b, .int .i64 r.ns.c, .int .i64 r.ns.d, .int .i64 r.rs.a, .int .i64 r.rs.b, .int .i64 r.rs.c, .int .i64 r.rs.d, .int .i64 r.ls.a, .int .i64 r.ls.b, .int .i64 r.ls.c, .int .i64 r.ls.d] 0) hb6)
  generalize upd G b6 (.row true 0 [.int .i64 r.kind, .int .u16 r.t, .int .u32 r.s, .string r.pan, .int .i64 r.am, .int .i64 r.ns.a, .int .i64 r.ns.b, .int .i64 r.ns.c, .int .i64 r.ns.d, .int .i64 r.rs.a, .int .i64 r.rs.b, .int .i64 r.rs.c, .int .i64 r.rs.d, .int .i64 r.ls.a, .int .i64 r.ls.b, .int .i64 r.ls.c, .int .i64 r.ls.d] 0) = G1 at *
  refine (hput _).mono ?_
  rintro w G2 ⟨sv, R, rfl, own2, lb2⟩
  replace own := own.grow own2.all
  simp (disch := first | omega | assumption | decide | (simp <;> omega) | fail) [facts, e2, e3, e4, e9, e10, e11]
  refine app_b lb own (LB.sv (show LB R sv (putB r) from lb2) own2.le) (by omega) ?_
  intro v' G3 B' own3 lb3 _
  rw [← hsn] at lb3
  simp (disch := first | omega | assumption | decide | (simp <;> omega) | fail) [facts, e2, e3, e4, e9, e10, e11]
  exact ⟨_, Heap.le_refl _, ⟨k + 1, B', v', by omega, by simp [e2], by simp [e3], by simp, by simp [e9], by simp [e10], by simp, own3, lb3⟩, by simp [intOf, e11]; omega⟩
end Go.Proofs.Ytnmbmccigpljnaa.GL
