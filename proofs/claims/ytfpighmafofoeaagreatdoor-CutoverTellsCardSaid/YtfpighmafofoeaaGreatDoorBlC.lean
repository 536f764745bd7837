/- Layer 20: lists compared; books compared.; Layer 20: records of numbers.; Layer 20: known. -/
import Derived.Test.YtfpighmafofoeaaGreatDoorBnY
namespace Go.Proofs.YtfpighmafofoeaaGreatDoor.GL
open Go Go.RowKit
open St (Txn txnL txnV zeroT RightT OkT)
open Ca (S4 flat setV OkS)
set_option maxRecDepth 10000
set_option pp.deepTerms.threshold 8
set_option pp.maxSteps 3000
set_option linter.unusedSimpArgs false
set_option linter.unusedVariables false

theorem txns_c (a b : Option Addr) (n c1 c2 : Nat) (L : List Txn) (H : Heap) (h1 : SlA H a n 11 (rowsC txnL L)) (h2 : SlA H b n 11 (rowsC txnL L)) (hn : n ≤ 1000) :
    ECalls Tryz.prog 13 #[.slice a n c1, .slice b n c2] H fun v H' => v = .bool true ∧ H' = H := by
  refine ecalls_of_ewp (args := [_, _]) Tryz.func13 rfl rfl rfl (by simp [Tryz.ntmps13]) (by kernel_rfl) ?_
  have hl1 := h1.els txn11 (by decide)
  simp (disch := first | omega | assumption | decide | (simp <;> omega) | fail) [facts, ]
  refine w_loop (fun s => ∃ i : Nat, i ≤ n ∧ s.heap = H ∧ s.env 0 = .slice a n c1 ∧ s.env 1 = .slice b n c2 ∧ s.env 5 = .int .i64 i) (fun s => n - (intOf (s.env 5)).toNat) ?_ ?_
  · exact ⟨0, Nat.zero_le _, rfl, by simp, by simp, by simp⟩
  rintro ⟨env, G⟩ ⟨i, hi, hG, e0, e1, e5⟩
  simp only at hG e0 e1 e5
  subst hG
  by_cases hlt : i < n
  · have hltI : (i : Int) < (n : Int) := by omega
    obtain ⟨t, ht⟩ : ∃ t, L[i]? = some t := ⟨_, List.getElem?_eq_getElem (by omega)⟩
    obtain ⟨ba, oa, rfl⟩ := h1.lit (by omega)
    obtain ⟨bb, ob, rfl⟩ := h2.lit (by omega)
    have ra : rdNU (G ba) (oa + i * 11) 11 = some (txnL t) := h1.el txn11 ht (j := 0) (r := 11) (by decide) (by decide)
    have rb : rdNU (G bb) (ob + i * 11) 11 = some (txnL t) := h2.el txn11 ht (j := 0) (r := 11) (by decide) (by decide)
    obtain ⟨te, st, pan, am, sta, n0, n1, n2, n3, gi, ow⟩ := t
    simp only [txnL] at ra rb
    simp (disch := first | omega | assumption | decide | (simp <;> omega) | fail) [facts, e0, e1, e5, hltI]
    refine w_plan (P := Tryz.prog) (by simp [facts]) (opsP [0,1,2,3,4,5,6,7,8] .done) ?_ ?_
    · decide +kernel
    simp (disch := first | omega | assumption | decide | (simp <;> omega) | fail) [facts, e0, e1, e5, hltI, ra, rb]
    exact ⟨_, Heap.le_refl _, ⟨i + 1, by omega, rfl, by simp [e0], by simp [e1], by simp⟩, by simp [intOf, e5]; omega⟩
  · have hltI : ¬ (i : Int) < (n : Int) := by omega
    simp (disch := first | omega | assumption | decide | (simp <;> omega) | fail) [facts, e0, e1, e5, hltI]
/-- A book and the reference's, of the same plain book, beside each other. -/
structure Two20 (F A B H : Heap) (p m : Nat) (fv tv : Value) (M : List Txn) (q : Nat) (tv2 lv : Value) (W : List Tp) (b : Bz) : Prop where
  t : TwoO F A B H
  bk : BookR A p fv tv m M b.T
  rf : RefR B q tv2 lv W b.L
  pm : M.Perm b.L
  tm : tmsOf W = b.T
  ok : BOk b
def sameInv (F A B : Heap) (p q : Nat) (s : St) : Prop :=
  ∃ i : Nat, i ≤ 4 ∧ s.env 0 = .pointer (some ⟨p, 0, none⟩) ∧ s.env 1 = .pointer (some ⟨q, 0, none⟩) ∧ s.env 5 = .int .u16 i ∧ TwoO F A B s.heap
end Go.Proofs.YtfpighmafofoeaaGreatDoor.GL

namespace Go.Proofs.YtfpighmafofoeaaGreatDoor.GL
open Go Go.RowKit
open St (Txn txnL txnV zeroT RightT OkT Rec recV)
open Ca (S4 flat setV OkS)
set_option maxRecDepth 10000
set_option pp.deepTerms.threshold 8
set_option pp.maxSteps 3000
set_option linter.unusedSimpArgs false
set_option linter.unusedVariables false

def recN (kind k stan am : Nat) : Rec :=
  let s := recS kind k stan am
  ⟨s.kind, s.t, s.s, if kind % 9 = 0 then panL (k % 4) else [], s.am, s.ns.a, s.ns.b, s.ns.c, s.ns.d, s.rs.a, s.rs.b, s.rs.c, s.rs.d, s.ls.a, s.ls.b, s.ls.c, s.ls.d⟩
theorem recN_pan (kind k stan am : Nat) : mkS (recN kind k stan am).pan = (recS kind k stan am).pan := by
  unfold recN recS
  simp only
  split <;> rfl
theorem recN_len (kind k stan am : Nat) : (recN kind k stan am).pan.length ≤ 16 := by
  unfold recN
  simp only
  split
  · unfold panL
    repeat' split
    all_goals decide
  · simp
theorem recN_term (kind k stan am : Nat) : (recN kind k stan am).term = ((k % 3 : Nat) : Int) := rfl
theorem recN_kind (kind k stan am : Nat) : (recN kind k stan am).kind = ((kind % 9 + 1 : Nat) : Int) := rfl
theorem recN_c (kind k stan am : Nat) (h1 : kind < 256) (h2 : k < 256) (h3 : stan < 256) (h4 : am < 65536) (H : Heap) :
    ECalls Tryz.prog 8 #[.int .u8 kind, .int .u8 k, .int .u8 stan, .int .u16 am] H fun v H' => v = recV (recN kind k stan am) ∧ Heap.le H H' := by
  refine (rec_c kind k stan am h1 h2 h3 h4 H _ rfl).mono ?_
  rintro v H' ⟨rfl, hle⟩
  refine ⟨?_, hle⟩
  unfold recV
  rw [recN_pan]
  rfl
/-- A record of numbers, or a raw one. -/
structure In20 where
  kind : Nat
  k : Nat
  stan : Nat
  am : Nat
  raw : Rec
structure In20.wf (x : In20) : Prop where
  kind : x.kind < 256
  k : x.k < 256
  stan : x.stan < 256
  am : x.am < 65536
  term : 0 ≤ x.raw.term ∧ x.raw.term ≤ 65535
def In20.cells (x : In20) : List Value := [.int .u8 x.kind, .int .u8 x.k, .int .u8 x.stan, .int .u16 x.am] ++ recL x.raw
theorem in21 (x : In20) : x.cells.length = 21 := rfl
def recIn (x : In20) : Rec :=
  if 250 ≤ x.kind then x.raw else if x.kind % 9 = 5 then { recN x.kind x.k x.stan x.am with amount := ((x.am % 700 : Nat) : Int) } else recN x.kind x.k x.stan x.am
end Go.Proofs.YtfpighmafofoeaaGreatDoor.GL

namespace Go.Proofs.YtfpighmafofoeaaGreatDoor.GL
open Go Go.RowKit
open St (Txn txnL txnV zeroT RightT OkT Rec recV stepF)
open Ca (S4 flat setV OkS CassOk newS)
set_option maxRecDepth 10000
set_option pp.deepTerms.threshold 8
set_option pp.maxSteps 3000
set_option linter.unusedSimpArgs false
set_option linter.unusedVariables false

def kr1 : Rec := ⟨1, 1, 2, [53, 49], 600, 0, 0, 0, 0, 0, 0, 0, 0, 0, 0, 0, 0⟩
def kr2 : Rec := ⟨9, 99, 0, [], 0, 0, 0, 0, 0, 0, 0, 0, 0, 0, 0, 0, 0⟩
def kt1 : Txn := (stepF zeroT kr1).1
theorem bok_new {T : List S4} (h : ∀ s ∈ T, CassOk s) (hT : T.length ≤ 8) : BOk ⟨T.map tm0, []⟩ := by
  refine ⟨by simpa using hT, fun x hx => ?_, by simp [Sorted], by simp, by simp⟩
  obtain ⟨s, hs, rfl⟩ := List.mem_map.1 hx
  exact ok_newS (h s hs)
theorem kstep1 : (stepF zeroT kr1).2 = 0 := by decide +kernel
theorem kright1 : kr1.rz.right = true := by decide +kernel
theorem kright2 : kr2.rz.right = true := by decide +kernel
theorem kdo1 {T : List Tm} (hT : T.length = 3) : doB ⟨T, []⟩ kr1 = (⟨T, [kt1]⟩, 0) := by
  obtain ⟨x, hx⟩ : ∃ x, T[1]? = some x := ⟨_, List.getElem?_eq_getElem (by omega)⟩
  unfold doB
  rw [kright1, if_neg (by decide)]
  have h1 : T[kr1.term.toNat]? = some x := hx
  simp only [h1]
  rw [if_neg (by decide), if_neg (by decide)]
  unfold stepB
  have hg : getK (kyR kr1) [] = none := rfl
  simp only [hg, Option.getD_none, kstep1]
  rw [if_neg (by decide), if_neg (by decide), if_neg (by decide)]
  rfl
theorem kdo2 {T : List Tm} (hT : T.length = 3) : doB ⟨T, [kt1]⟩ kr2 = (⟨T, [kt1]⟩, 32) := by
  unfold doB
  rw [kright2, if_neg (by decide)]
  have h1 : T[kr2.term.toNat]? = none := List.getElem?_eq_none (by show T.length ≤ 99; omega)
  simp only [h1]
end Go.Proofs.YtfpighmafofoeaaGreatDoor.GL
