/- Layer 4: records; digits; counts.; Layer 4: which records may be.; Layer 4: the statements' records.; Layer 18: the small functions on numbers of notes.; Layer 18: a set of cassettes: what its functions do with it.; Layer 18: notes given; what was given is worth.; Layer 18: the reference's set of cassettes.; Layer 18: the walk of SetPlays. -/
import Derived.Test.YtfpighmafofoeaaDoorGlU
import Derived.Test.YtfpighmafofoeaaDoorGlT
import Derived.Test.YtfpighmafofoeaaDoorGlS
import Derived.Test.YtfpighmafofoeaaDoorGlX
import Derived.Test.YtfpighmafofoeaaDoorGlY
import Derived.Test.YtfpighmafofoeaaDoorGlO
namespace Go.Proofs.YtfpighmafofoeaaDoor.GL
open Go Go.RowKit
set_option maxRecDepth 10000
set_option pp.deepTerms.threshold 8
set_option pp.maxSteps 3000
set_option linter.unusedSimpArgs false
set_option linter.unusedVariables false

structure NZ where
  a : Int
  b : Int
  c : Int
  d : Int
  deriving DecidableEq
def NZ.l (x : NZ) : List Int := [x.a, x.b, x.c, x.d]
def NZ.cells (x : NZ) : List Value := [.int .i64 x.a, .int .i64 x.b, .int .i64 x.c, .int .i64 x.d]
theorem n4 (x : NZ) : x.cells.length = 4 := rfl
def inC (z : Int) : Bool := decide (0 ≤ z) && decide (z ≤ 10000)
def NZ.ok (x : NZ) : Bool := x.l.all inC
structure RZ where
  kind : Int
  t : Int
  s : Int
  pan : ByteArray
  am : Int
  ns : NZ
  rs : NZ
  ls : NZ
  deriving DecidableEq
def isD (c : UInt8) : Bool := decide (48 ≤ c.toNat) && decide (c.toNat ≤ 57)
def allD (s : ByteArray) : Bool := s.data.toList.all isD
def RZ.right (r : RZ) : Bool := decide (1 ≤ r.kind) && decide (r.kind < 10) && decide (r.pan.size ≤ 19) && allD r.pan && decide (0 ≤ r.am) && decide (r.am ≤ 1000000) && r.ns.ok && r.rs.ok && r.ls.ok
theorem all_step {α : Type} {p : α → Bool} {l : List α} {k : Nat} {x : α} (hx : l[k]? = some x) (h : (l.take k).all p = true) (hp : p x = true) : (l.take (k + 1)).all p = true := by
  rw [List.take_add_one, hx, List.all_append, h]; simp [hp]
theorem all_false {α : Type} {p : α → Bool} {l : List α} {k : Nat} {x : α} (hx : l[k]? = some x) (hp : p x = false) : l.all p = false := by
  cases h : l.all p with
  | false => rfl
  | true => rw [List.all_eq_true.1 h x (List.mem_of_getElem? hx)] at hp; cases hp
def digInv (H : Heap) (s : ByteArray) (st : St) : Prop :=
  ∃ k : Nat, k ≤ s.size ∧ st.env 0 = .string s ∧ st.env 5 = .int .i64 s.size ∧ st.env 6 = .int .i64 k ∧ st.heap = H ∧ (s.data.toList.take k).all isD = true
theorem digits_c (s : ByteArray) (H : Heap) (hn : s.size ≤ 140737488351232) : ECalls Tryd.prog 42 #[.string s] H fun r H' => r = .bool (allD s) ∧ H' = H := by
  refine ecalls_of_ewp (args := [_]) Tryd.func42 rfl rfl rfl (by simp [Tryd.ntmps42]) (by kernel_rfl) ?_
  have hsz : s.size = s.data.size := rfl
  simp (disch := first | omega | assumption | decide | (simp <;> omega) | fail) [facts, ]
  refine w_loop (digInv H s) (fun st => s.size - (intOf (st.env 6)).toNat) ?_ ?_
  · exact ⟨0, Nat.zero_le _, by simp, by simp, by simp, rfl, by simp⟩
  rintro ⟨env, G⟩ ⟨k, hk, e0, e5, e6, hG, hall⟩
  simp only at e0 e5 e6 hG
  subst hG
  by_cases hlt : k < s.size
  · have hltI : (k : Int) < (s.size : Int) := by omega
    obtain ⟨x, hx⟩ : ∃ x, s.data.toList[k]? = some x := ⟨_, List.getElem?_eq_getElem (by simpa using hlt)⟩
    have hx2 : s.data[k]? = some x := by rw [← Array.getElem?_toList]; exact hx
    have hx3 : s.data[k] = x := (Array.getElem?_eq_some_iff.1 hx2).2
    by_cases h1 : x.toNat < 48
    · have h1I : (x.toNat : Int) < 48 := by omega
      have hno : allD s = false := all_false hx (by unfold isD; simp; omega)
      simp (disch := first | omega | assumption | decide | (simp <;> omega) | fail) [facts, e0, e5, e6, hltI, hx2, hx3, h1I, hno]
    · have h1I : ¬ (x.toNat : Int) < 48 := by omega
      by_cases h2 : 57 < x.toNat
      · have h2I : (57 : Int) < (x.toNat : Int) := by omega
        have hno : allD s = false := all_false hx (by unfold isD; simp; omega)
        simp (disch := first | omega | assumption | decide | (simp <;> omega) | fail) [facts, e0, e5, e6, hltI, hx2, hx3, h1I, h2I, hno]
      · have h2I : ¬ (57 : Int) < (x.toNat : Int) := by omega
        simp (disch := first | omega | assumption | decide | (simp <;> omega) | fail) [facts, e0, e5, e6, hltI, hx2, hx3, h1I, h2I]
        exact ⟨_, Heap.le_refl _, ⟨k + 1, by omega, by simp [e0], by simp [e5], by simp, rfl, all_step hx hall (by unfold isD; simp; omega)⟩, by simp [intOf, e6]; omega⟩
  · have hkn : k = s.size := by omega
    have hall' : allD s = true := by
      unfold allD
      rw [List.take_of_length_le (by simp; omega)] at hall; exact hall
    simp (disch := first | omega | assumption | decide | (simp <;> omega) | fail) [facts, e0, e5, e6, hkn, hall']
def digRInv (H : Heap) (s : ByteArray) (st : St) : Prop :=
  ∃ k : Nat, k ≤ s.size ∧ st.env 0 = .string s ∧ st.env 3 = .int .i64 k ∧ st.heap = H ∧ (s.data.toList.take k).all isD = true
theorem NZ.at (x : NZ) {m : Nat} {z : Int} (h : x.l[m]? = some z) : [Value.int .i64 x.a, .int .i64 x.b, .int .i64 x.c, .int .i64 x.d][m]? = some (.int .i64 z) := by
  have : [Value.int .i64 x.a, .int .i64 x.b, .int .i64 x.c, .int .i64 x.d] = x.l.map (.int .i64) := rfl
  rw [this, List.getElem?_map, h]; rfl
def fewInv (H : Heap) (b : Nat) (x : NZ) (st : St) : Prop :=
  ∃ m : Nat, m ≤ 4 ∧ st.env 1 = .pointer (some ⟨b, 0, none⟩) ∧ st.env 3 = .int .i64 m ∧ st.heap = H ∧ (x.l.take m).all inC = true
end Go.Proofs.YtfpighmafofoeaaDoor.GL

namespace Go.Proofs.YtfpighmafofoeaaDoor.GL
open Go Go.RowKit
set_option maxRecDepth 10000
set_option pp.deepTerms.threshold 8
set_option pp.maxSteps 3000
set_option linter.unusedSimpArgs false
set_option linter.unusedVariables false

def cnInv (H : Heap) (a : Option Addr) (n c : Nat) (xs : List NZ) (st : St) : Prop :=
  ∃ k : Nat, k ≤ n ∧ st.env 7 = .slice a n c ∧ st.env 8 = .int .i64 n ∧ st.env 9 = .int .i64 k ∧ Heap.le H st.heap ∧ (xs.take k).all NZ.ok = true
def cn4Inv (H : Heap) (a : Option Addr) (n c k : Nat) (x : NZ) (st : St) : Prop :=
  ∃ m : Nat, m ≤ 4 ∧ st.env 7 = .slice a n c ∧ st.env 8 = .int .i64 n ∧ st.env 9 = .int .i64 k ∧ st.env 13 = .agg #[.int .i64 x.a, .int .i64 x.b, .int .i64 x.c, .int .i64 x.d] ∧ st.env 14 = .int .i64 m ∧ Heap.le H st.heap ∧ (x.l.take m).all inC = true
theorem notes3 (x y z : NZ) : splice (splice (splice (zeros [.int .i64 0, .int .i64 0, .int .i64 0, .int .i64 0] 3) 0 [.int .i64 x.a, .int .i64 x.b, .int .i64 x.c, .int .i64 x.d]) 4 [.int .i64 y.a, .int .i64 y.b, .int .i64 y.c, .int .i64 y.d]) 8 [.int .i64 z.a, .int .i64 z.b, .int .i64 z.c, .int .i64 z.d] = rowsC NZ.cells [x, y, z] := rfl
end Go.Proofs.YtfpighmafofoeaaDoor.GL

namespace Go.Proofs.YtfpighmafofoeaaDoor.GL
open Go Go.RowKit
set_option maxRecDepth 10000
set_option pp.deepTerms.threshold 8
set_option pp.maxSteps 3000
set_option linter.unusedSimpArgs false
set_option linter.unusedVariables false

theorem mkS_sz (l : List UInt8) : (mkS l).size = l.length := by simp [mkS, ByteArray.size]
theorem le_updN {D H : Heap} {b : Nat} (h : Heap.le D H) (hb : D b = none) (o : GObj) : Heap.le D (upd H b o) := fun i x e => by rw [upd_ne _ _ (ne_of_fresh hb e)]; exact h i x e
def zeroN : NZ := ⟨0, 0, 0, 0⟩
structure RZ.wf (r : RZ) : Prop where
  t : 0 ≤ r.t ∧ r.t ≤ 65535
  s : 0 ≤ r.s ∧ r.s ≤ 4294967295
theorem rep13 : rep 13 (.int .i64 0) = [.int .i64 0, .int .i64 0, .int .i64 0, .int .i64 0, .int .i64 0, .int .i64 0, .int .i64 0, .int .i64 0, .int .i64 0, .int .i64 0, .int .i64 0, .int .i64 0, .int .i64 0] := rfl
attribute [simp] rep13
def i64In (v : Int) : Prop := -9223372036854775808 ≤ v ∧ v ≤ 9223372036854775807
theorem rep16 : rep 16 (.int .i64 0) = [.int .i64 0, .int .i64 0, .int .i64 0, .int .i64 0, .int .i64 0, .int .i64 0, .int .i64 0, .int .i64 0, .int .i64 0, .int .i64 0, .int .i64 0, .int .i64 0, .int .i64 0, .int .i64 0, .int .i64 0, .int .i64 0] := rfl
attribute [simp] rep16
def panL (k : Nat) : List UInt8 := if k = 0 then [52, 48, 48, 48, 49, 50, 51, 52, 49, 50, 51, 52, 49, 50, 51, 52] else if k = 1 then [53, 49] else if k = 2 then [57] else [54, 48, 49, 49, 48, 48, 48, 57, 57, 48, 49, 51, 57, 52, 50, 52]
def panS (k : Nat) : ByteArray := mkS (panL (k % 4))
theorem pan_c (k : Nat) (hk : k < 256) (H : Heap) : ECalls Tryd.prog 28 #[.int .u8 k] H fun v H' => v = .string (panS k) ∧ Heap.le H H' := by
  refine ecalls_of_ewp (args := [_]) Tryd.func28 rfl rfl rfl (by simp [Tryd.ntmps28]) (by kernel_rfl) ?_
  obtain ⟨q, hq⟩ : ∃ q : Nat, q = k % 4 := ⟨_, rfl⟩
  have hqI : (k : Int) % 4 = (q : Int) := by omega
  have hq4 : q < 4 := by omega
  unfold panS
  rw [← hq]
  simp (disch := first | omega | assumption | decide | (simp <;> omega) | fail) [facts, ]
  refine fresh_intro fun b hb => ?_
  have hcs : q = 0 ∨ q = 1 ∨ q = 2 ∨ q = 3 := by omega
  rcases hcs with rfl | rfl | rfl | rfl
  all_goals
    simp (disch := first | omega | assumption | decide | (simp <;> omega) | fail) [facts, hqI]
    exact ⟨_, Heap.le_refl _, rfl, le_upd _ hb⟩
def recS (kind k stan amount : Nat) : RZ :=
  ⟨(kind % 9 + 1 : Nat), (k % 3 : Nat), (stan % 4 + 1 : Nat), if kind % 9 = 0 then panS k else ByteArray.empty, (amount % 5000 : Nat),
   if kind % 9 = 4 ∨ kind % 9 = 5 then ⟨(k % 4 : Nat), (k / 4 % 4 : Nat), 0, 0⟩ else if kind % 9 = 7 then ⟨(k / 3 : Nat), (stan % 8 : Nat), 0, 0⟩ else zeroN,
   if kind % 9 = 4 ∨ kind % 9 = 5 then ⟨(k / 16 % 2 : Nat), 0, 0, 0⟩ else zeroN,
   if kind % 9 = 7 then ⟨(k : Nat), (k / 2 : Nat), 10000, (stan : Nat)⟩ else zeroN⟩
theorem panL_len : ∀ k, k < 4 → (panL k).length ≤ 16 ∧ (panL k).all isD = true ∧ 0 < (panL k).length := by
  intro k hk
  have : k = 0 ∨ k = 1 ∨ k = 2 ∨ k = 3 := by omega
  rcases this with rfl | rfl | rfl | rfl <;> decide
theorem panS_ok (k : Nat) : (panS k).size ≤ 16 ∧ allD (panS k) = true ∧ 0 < (panS k).size := by
  have := panL_len (k % 4) (Nat.mod_lt _ (by decide))
  unfold panS
  rw [mkS_sz]
  refine ⟨this.1, ?_, this.2.2⟩
  unfold allD
  rw [mkS_list]; exact this.2.1
theorem nz_ok {a b c d : Int} (h1 : 0 ≤ a ∧ a ≤ 10000) (h2 : 0 ≤ b ∧ b ≤ 10000) (h3 : 0 ≤ c ∧ c ≤ 10000) (h4 : 0 ≤ d ∧ d ≤ 10000) : (NZ.mk a b c d).ok = true := by
  simp [NZ.ok, NZ.l, inC, h1, h2, h3, h4]
/-- Such a record may be. -/
theorem recS_right (kind k stan amount : Nat) (h2 : k < 256) (h3 : stan < 256) : (recS kind k stan amount).right = true ∧ (recS kind k stan amount).wf := by
  have hp := panS_ok k
  refine ⟨?_, ⟨⟨?_, ?_⟩, ⟨?_, ?_⟩⟩⟩
  · have p1 : (recS kind k stan amount).pan.size ≤ 16 ∧ allD (recS kind k stan amount).pan = true := by
      unfold recS
      simp only
      split
      · exact ⟨hp.1, hp.2.1⟩
      · exact ⟨by decide, by decide⟩
    have p2 : (recS kind k stan amount).ns.ok = true := by
      unfold recS
      simp only
      split
      · exact nz_ok (by omega) (by omega) (by omega) (by omega)
      · split
        · exact nz_ok (by omega) (by omega) (by omega) (by omega)
        · decide
    have p3 : (recS kind k stan amount).rs.ok = true := by
      unfold recS
      simp only
      split
      · exact nz_ok (by omega) (by omega) (by omega) (by omega)
      · decide
    have p4 : (recS kind k stan amount).ls.ok = true := by
      unfold recS
      simp only
      split
      · exact nz_ok (by omega) (by omega) (by omega) (by omega)
      · decide
    have k1 : (recS kind k stan amount).kind = (kind % 9 + 1 : Nat) := rfl
    have k2 : (recS kind k stan amount).am = (amount % 5000 : Nat) := rfl
    simp only [RZ.right, p1.2, p2, p3, p4, k1, k2, Bool.and_true, Bool.and_eq_true, decide_eq_true_eq]
    omega
  · show (0 : Int) ≤ ((k % 3 : Nat) : Int)
    omega
  · show ((k % 3 : Nat) : Int) ≤ 65535
    omega
  · show (0 : Int) ≤ ((stan % 4 + 1 : Nat) : Int)
    omega
  · show ((stan % 4 + 1 : Nat) : Int) ≤ 4294967295
    omega
end Go.Proofs.YtfpighmafofoeaaDoor.GL

namespace Go.Proofs.YtfpighmafofoeaaDoor.GL.Ca
open Go Go.RowKit Go.Proofs.YtfpighmafofoeaaDoor.GL
set_option maxRecDepth 10000
set_option pp.deepTerms.threshold 8
set_option pp.maxSteps 3000
set_option linter.unusedSimpArgs false
set_option linter.unusedVariables false

def fewIn (z : Int) : Prop := 0 ≤ z ∧ z ≤ 10000
instance (z : Int) : Decidable (fewIn z) := inferInstanceAs (Decidable (_ ∧ _))
theorem few_or (z : Int) : fewIn z ∨ z < 0 ∨ (¬ z < 0 ∧ 10000 < z) := by unfold fewIn; omega
def placeZ (k : Int) : Int := if k.tmod 4 < 0 then k.tmod 4 + 4 else k.tmod 4
theorem placeZ_in (k : Int) : 0 ≤ placeZ k ∧ placeZ k ≤ 3 := by
  have h1 := Int.tmod_lt_of_pos k (show (0 : Int) < 4 by decide)
  have h3 : (-k).tmod 4 = -(k.tmod 4) := Int.neg_tmod k 4
  have h4 := Int.tmod_lt_of_pos (-k) (show (0 : Int) < 4 by decide)
  unfold placeZ; split <;> omega
def notesV (a b c d : Int) : Value := .agg #[.int .i64 a, .int .i64 b, .int .i64 c, .int .i64 d]
def fourIn (a b c d : Int) : Prop := fewIn a ∧ fewIn b ∧ fewIn c ∧ fewIn d
instance (a b c d : Int) : Decidable (fourIn a b c d) := inferInstanceAs (Decidable (_ ∧ _))
def leftZ (l g r : Int) : Int := if fewIn l ∧ fewIn g ∧ fewIn r then max (l - g - r) 0 else 0
def cassV (d l g r : Int) : Value := .agg #[.int .i64 d, .int .i64 l, .int .i64 g, .int .i64 r]
end Go.Proofs.YtfpighmafofoeaaDoor.GL.Ca

namespace Go.Proofs.YtfpighmafofoeaaDoor.GL.Ca
open Go Go.RowKit Go.Proofs.YtfpighmafofoeaaDoor.GL
set_option maxRecDepth 10000
set_option pp.deepTerms.threshold 8
set_option pp.maxSteps 3000
set_option linter.unusedSimpArgs false
set_option linter.unusedVariables false

theorem fresh_abs {f : Nat → Value} {g : GObj} {H : Heap} {K : Kont} (P : Heap → Prop) (hP : P H) (h : ∀ H' b, P H' → H' b = none → K (f b) (upd H' b g)) : eFresh f g H K := fun b hb => h H b hP hb
theorem dele_get {H : Heap} {b p : Nat} {o : GObj} (hne : b ≠ p) (h : H b = some o) : (dele H p) b = some o := by rw [dele_ne _ hne]; exact h
theorem le_dele {H H1 : Heap} (p : Nat) (hl : Heap.le H H1) : Heap.le (dele H p) H1 := Heap.le_trans (dele_le _ _) hl
theorem dele_none {H : Heap} (p : Nat) : dele H p p = none := dele_same H p
structure Cs where
  d : Int
  l : Int
  g : Int
  r : Int
structure S4 where
  a : Cs
  b : Cs
  c : Cs
  e : Cs
def flat (s : S4) : List Value := [.int .i64 s.a.d, .int .i64 s.a.l, .int .i64 s.a.g, .int .i64 s.a.r, .int .i64 s.b.d, .int .i64 s.b.l, .int .i64 s.b.g, .int .i64 s.b.r, .int .i64 s.c.d, .int .i64 s.c.l, .int .i64 s.c.g, .int .i64 s.c.r, .int .i64 s.e.d, .int .i64 s.e.l, .int .i64 s.e.g, .int .i64 s.e.r]
def setV (s : S4) : Value := .agg (flat s).toArray
def newC (c : Cs) : Cs := ⟨c.d, min (max c.l 0) 10000, 0, 0⟩
def newS (s : S4) : S4 := ⟨newC s.a, newC s.b, newC s.c, newC s.e⟩
def loadS (s : S4) (n0 n1 n2 n3 : Int) : S4 := ⟨⟨s.a.d, n0, 0, 0⟩, ⟨s.b.d, n1, 0, 0⟩, ⟨s.c.d, n2, 0, 0⟩, ⟨s.e.d, n3, 0, 0⟩⟩
def addC (c : Cs) (n r : Int) : Cs := ⟨c.d, c.l, c.g + n, c.r + r⟩
def OkC (c : Cs) : Prop := fewIn c.l ∧ fewIn c.g ∧ fewIn c.r ∧ c.g + c.r ≤ c.l ∧ i64In c.d
def OkS (s : S4) : Prop := OkC s.a ∧ OkC s.b ∧ OkC s.c ∧ OkC s.e
def fitC (c : Cs) (n r : Int) : Prop := n + r ≤ leftZ c.l c.g c.r

set_option maxHeartbeats 400000 in
theorem new_c (s : S4) (H : Heap) : ECalls Tryd.prog 26 #[setV s] H fun v H' => ∃ p, v = .pointer (some ⟨p, 0, none⟩) ∧ H p = none ∧ H' p = some (.row true 0 (flat (newS s)) 0) ∧ Heap.le H H' := by
  refine ecalls_of_ewp (args := [_]) Tryd.func26 rfl rfl rfl (by simp [Tryd.ntmps26]) (by kernel_rfl) ?_
  obtain ⟨⟨d0, l0, g0, r0⟩, ⟨d1, l1, g1, r1⟩, ⟨d2, l2, g2, r2⟩, ⟨d3, l3, g3, r3⟩⟩ := s
  simp only [setV, flat, newS, newC]
  simp (disch := first | omega | assumption | decide | (simp <;> omega) | fail) [facts, ]
  refine fresh_intro fun b1 hb1 => ?_
  simp (disch := first | omega | assumption | decide | (simp <;> omega) | fail) [facts, ]
  refine fresh_intro fun p hp => ?_
  have q1 : b1 ≠ p := ne_of_fresh hp (upd_same _ _ _)
  have hpn : H p = none := le_of_none (le_upd _ hb1) hp
  simp (disch := first | omega | assumption | decide | (simp <;> omega) | fail) [facts, upd_ne]
  refine w_unroll 5 ?_
  simp (disch := first | omega | assumption | decide | (simp <;> omega) | fail) [facts, upd_ne]
  refine fresh_abs (fun H' => Heap.le H H' ∧ H' p = some (.row true 0 [.int .i64 0, .int .i64 0, .int .i64 0, .int .i64 0, .int .i64 0, .int .i64 0, .int .i64 0, .int .i64 0, .int .i64 0, .int .i64 0, .int .i64 0, .int .i64 0, .int .i64 0, .int .i64 0, .int .i64 0, .int .i64 0] 0)) ⟨?_, by simp⟩ ?_
  · repeat' (first | exact hle | exact Heap.le_refl _ | assumption | (refine le_of_none hle ?_; assumption) | apply le_updN)
  rintro H0 x0 ⟨hle, lp⟩ hx0
  have y0 : p ≠ x0 := ne_of_fresh hx0 lp
  have z0 : H x0 = none := le_of_none hle hx0
  simp (disch := first | omega | assumption | decide | (simp <;> omega) | fail) [facts, lp, upd_ne, upd_upd]
  refine w_plan (P := Tryd.prog) (by simp [facts]) (opsP [0,1,2,3,4,5,6,7,8,9,10,11,12] .done) ?_ ?_
  · decide +kernel
  simp (disch := first | omega | assumption | decide | (simp <;> omega) | fail) [facts, lp, upd_ne, upd_upd]
  refine fresh_abs (fun H' => Heap.le H H' ∧ H' p = some (.row true 0 [.int .i64 d0, .int .i64 (min (max l0 0) 10000), .int .i64 0, .int .i64 0, .int .i64 0, .int .i64 0, .int .i64 0, .int .i64 0, .int .i64 0, .int .i64 0, .int .i64 0, .int .i64 0, .int .i64 0, .int .i64 0, .int .i64 0, .int .i64 0] 0)) ⟨?_, by simp⟩ ?_
  · repeat' (first | exact hle | exact Heap.le_refl _ | assumption | (refine le_of_none hle ?_; assumption) | apply le_updN)
  rintro H1 x1 ⟨hle, lp⟩ hx1
  have y1 : p ≠ x1 := ne_of_fresh hx1 lp
  have z1 : H x1 = none := le_of_none hle hx1
  simp (disch := first | omega | assumption | decide | (simp <;> omega) | fail) [facts, lp, upd_ne, upd_upd]
  refine w_plan (P := Tryd.prog) (by simp [facts]) (opsP [0,1,2,3,4,5,6,7,8,9,10,11,12] .done) ?_ ?_
  · decide +kernel
  simp (disch := first | omega | assumption | decide | (simp <;> omega) | fail) [facts, lp, upd_ne, upd_upd]
  refine fresh_abs (fun H' => Heap.le H H' ∧ H' p = some (.row true 0 [.int .i64 d0, .int .i64 (min (max l0 0) 10000), .int .i64 0, .int .i64 0, .int .i64 d1, .int .i64 (min (max l1 0) 10000), .int .i64 0, .int .i64 0, .int .i64 0, .int .i64 0, .int .i64 0, .int .i64 0, .int .i64 0, .int .i64 0, .int .i64 0, .int .i64 0] 0)) ⟨?_, by simp⟩ ?_
  · repeat' (first | exact hle | exact Heap.le_refl _ | assumption | (refine le_of_none hle ?_; assumption) | apply le_updN)
  rintro H2 x2 ⟨hle, lp⟩ hx2
  have y2 : p ≠ x2 := ne_of_fresh hx2 lp
  have z2 : H x2 = none := le_of_none hle hx2
  simp (disch := first | omega | assumption | decide | (simp <;> omega) | fail) [facts, lp, upd_ne, upd_upd]
  refine w_plan (P := Tryd.prog) (by simp [facts]) (opsP [0,1,2,3,4,5,6,7,8,9,10,11,12] .done) ?_ ?_
  · decide +kernel
  simp (disch := first | omega | assumption | decide | (simp <;> omega) | fail) [facts, lp, upd_ne, upd_upd]
  refine fresh_abs (fun H' => Heap.le H H' ∧ H' p = some (.row true 0 [.int .i64 d0, .int .i64 (min (max l0 0) 10000), .int .i64 0, .int .i64 0, .int .i64 d1, .int .i64 (min (max l1 0) 10000), .int .i64 0, .int .i64 0, .int .i64 d2, .int .i64 (min (max l2 0) 10000), .int .i64 0, .int .i64 0, .int .i64 0, .int .i64 0, .int .i64 0, .int .i64 0] 0)) ⟨?_, by simp⟩ ?_
  · repeat' (first | exact hle | exact Heap.le_refl _ | assumption | (refine le_of_none hle ?_; assumption) | apply le_updN)
  rintro H3 x3 ⟨hle, lp⟩ hx3
  have y3 : p ≠ x3 := ne_of_fresh hx3 lp
  have z3 : H x3 = none := le_of_none hle hx3
  simp (disch := first | omega | assumption | decide | (simp <;> omega) | fail) [facts, lp, upd_ne, upd_upd]
  refine w_plan (P := Tryd.prog) (by simp [facts]) (opsP [0,1,2,3,4,5,6,7,8,9,10,11,12] .done) ?_ ?_
  · decide +kernel
  simp (disch := first | omega | assumption | decide | (simp <;> omega) | fail) [facts, lp, upd_ne, upd_upd]
  refine ⟨_, Heap.le_refl _, hpn, by simp, ?_⟩
  repeat' (first | exact hle | exact Heap.le_refl _ | assumption | (refine le_of_none hle ?_; assumption) | apply le_updN)

end Go.Proofs.YtfpighmafofoeaaDoor.GL.Ca

namespace Go.Proofs.YtfpighmafofoeaaDoor.GL.Ca
open Go Go.RowKit Go.Proofs.YtfpighmafofoeaaDoor.GL
set_option maxRecDepth 10000
set_option pp.deepTerms.threshold 8
set_option pp.maxSteps 3000
set_option linter.unusedSimpArgs false
set_option linter.unusedVariables false

def fitS (s : S4) (n0 n1 n2 n3 r0 r1 r2 r3 : Int) : Prop := fitC s.a n0 r0 ∧ fitC s.b n1 r1 ∧ fitC s.c n2 r2 ∧ fitC s.e n3 r3
instance (c : Cs) (n r : Int) : Decidable (fitC c n r) := inferInstanceAs (Decidable (_ ≤ _))
instance (s : S4) (n0 n1 n2 n3 r0 r1 r2 r3 : Int) : Decidable (fitS s n0 n1 n2 n3 r0 r1 r2 r3) := inferInstanceAs (Decidable (_ ∧ _))
def addS (s : S4) (n0 n1 n2 n3 r0 r1 r2 r3 : Int) : S4 := ⟨addC s.a n0 r0, addC s.b n1 r1, addC s.c n2 r2, addC s.e n3 r3⟩

end Go.Proofs.YtfpighmafofoeaaDoor.GL.Ca

namespace Go.Proofs.YtfpighmafofoeaaDoor.GL.Ca
open Go Go.RowKit Go.Proofs.YtfpighmafofoeaaDoor.GL
set_option maxRecDepth 10000
set_option pp.deepTerms.threshold 8
set_option pp.maxSteps 3000
set_option linter.unusedSimpArgs false
set_option linter.unusedVariables false

end Go.Proofs.YtfpighmafofoeaaDoor.GL.Ca

namespace Go.Proofs.YtfpighmafofoeaaDoor.GL.Ca
open Go Go.RowKit Go.Proofs.YtfpighmafofoeaaDoor.GL
set_option maxRecDepth 10000
set_option pp.deepTerms.threshold 8
set_option pp.maxSteps 3000
set_option linter.unusedSimpArgs false
set_option linter.unusedVariables false

def smZ (w : Nat) (z : Int) : Int := if w % 8 = 7 then z else placeZ z
theorem leftZ_few {l g r : Int} (hl : fewIn l) (hg : fewIn g) (hr : fewIn r) : leftZ l g r = max (l - g - r) 0 := if_pos ⟨hl, hg, hr⟩
theorem fitC_iff {c : Cs} {n r : Int} (h : OkC c) : fitC c n r ↔ n + r ≤ c.l - c.g - c.r := by
  obtain ⟨h1, h2, h3, h4, _⟩ := h
  unfold fitC; rw [leftZ_few h1 h2 h3]; unfold fewIn at h1 h2 h3; omega
theorem ok_addC {c : Cs} {n r : Int} (h : OkC c) (hn : fewIn n) (hr : fewIn r) (hf : fitC c n r) : OkC (addC c n r) := by
  have hf := (fitC_iff h).1 hf
  obtain ⟨h1, h2, h3, h4, h5⟩ := h
  unfold OkC addC fewIn at *; simp only
  exact ⟨by omega, by omega, by omega, by omega, h5⟩
theorem ok_add {s : S4} {n0 n1 n2 n3 r0 r1 r2 r3 : Int} (hs : OkS s) (hn : fourIn n0 n1 n2 n3) (hr : fourIn r0 r1 r2 r3) (hf : fitS s n0 n1 n2 n3 r0 r1 r2 r3) : OkS (addS s n0 n1 n2 n3 r0 r1 r2 r3) :=
  ⟨ok_addC hs.1 hn.1 hr.1 hf.1, ok_addC hs.2.1 hn.2.1 hr.2.1 hf.2.1, ok_addC hs.2.2.1 hn.2.2.1 hr.2.2.1 hf.2.2.1, ok_addC hs.2.2.2 hn.2.2.2 hr.2.2.2 hf.2.2.2⟩
theorem ok_load {s : S4} {n0 n1 n2 n3 : Int} (hs : OkS s) (hf : fourIn n0 n1 n2 n3) : OkS (loadS s n0 n1 n2 n3) := by
  obtain ⟨⟨_, _, _, _, h0⟩, ⟨_, _, _, _, h1⟩, ⟨_, _, _, _, h2⟩, ⟨_, _, _, _, h3⟩⟩ := hs
  obtain ⟨f0, f1, f2, f3⟩ := hf
  unfold fewIn at f0 f1 f2 f3
  unfold OkS OkC loadS fewIn; simp only
  refine ⟨⟨?_, ?_, ?_, ?_, h0⟩, ⟨?_, ?_, ?_, ?_, h1⟩, ⟨?_, ?_, ?_, ?_, h2⟩, ⟨?_, ?_, ?_, ?_, h3⟩⟩ <;> omega
theorem ok_new {s : S4} (h0 : i64In s.a.d) (h1 : i64In s.b.d) (h2 : i64In s.c.d) (h3 : i64In s.e.d) : OkS (newS s) := by
  unfold OkS OkC newS newC fewIn; simp only
  refine ⟨⟨?_, ?_, ?_, ?_, h0⟩, ⟨?_, ?_, ?_, ?_, h1⟩, ⟨?_, ?_, ?_, ?_, h2⟩, ⟨?_, ?_, ?_, ?_, h3⟩⟩ <;> omega
def giveE (s : S4) (n0 n1 n2 n3 r0 r1 r2 r3 : Int) : Int := if fourIn n0 n1 n2 n3 ∧ fourIn r0 r1 r2 r3 then (if fitS s n0 n1 n2 n3 r0 r1 r2 r3 then 0 else 25) else 20
def giveT (s : S4) (n0 n1 n2 n3 r0 r1 r2 r3 : Int) : S4 := if fourIn n0 n1 n2 n3 ∧ fourIn r0 r1 r2 r3 then (if fitS s n0 n1 n2 n3 r0 r1 r2 r3 then addS s n0 n1 n2 n3 r0 r1 r2 r3 else s) else s
theorem ok_give {s : S4} (hs : OkS s) (n0 n1 n2 n3 r0 r1 r2 r3 : Int) : OkS (giveT s n0 n1 n2 n3 r0 r1 r2 r3) := by
  unfold giveT
  split
  · rename_i h
    split
    · rename_i hf; exact ok_add hs h.1 h.2 hf
    · exact hs
  · exact hs
def loadE (n0 n1 n2 n3 : Int) : Int := if fourIn n0 n1 n2 n3 then 0 else 20
def loadT (s : S4) (n0 n1 n2 n3 : Int) : S4 := if fourIn n0 n1 n2 n3 then loadS s n0 n1 n2 n3 else s
theorem ok_loadT {s : S4} (hs : OkS s) (n0 n1 n2 n3 : Int) : OkS (loadT s n0 n1 n2 n3) := by
  unfold loadT
  split
  · rename_i h; exact ok_load hs h
  · exact hs

end Go.Proofs.YtfpighmafofoeaaDoor.GL.Ca
