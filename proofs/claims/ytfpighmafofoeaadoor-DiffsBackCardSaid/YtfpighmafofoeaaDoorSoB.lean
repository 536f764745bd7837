/- Layer 20: keys sorted: the library's own contract of slices.SortFunc, told of heaps. -/
import Derived.Test.YtfpighmafofoeaaDoorSoA
import Derived.Test.YtfpighmafofoeaaDoorGlT
import Derived.Test.YtfpighmafofoeaaDoorGlR
import Derived.Test.YtfpighmafofoeaaDoorGlS
namespace Go.Proofs.YtfpighmafofoeaaDoor.GL
open Go Go.RowKit Go.Shelf Go.Sort
set_option maxRecDepth 10000
set_option pp.deepTerms.threshold 8
set_option pp.maxSteps 3000
set_option linter.unusedSimpArgs false
set_option linter.unusedVariables false

/-- A transaction's key. -/
structure KZ where
  t : Int
  s : Int
instance : Inhabited KZ := ⟨⟨0, 0⟩⟩
instance : DecidableEq KZ := fun x y => decidable_of_iff (x.t = y.t ∧ x.s = y.s) (by cases x; cases y; simp)
def KZ.cells (k : KZ) : List Value := [.int .u16 k.t, .int .u32 k.s]
theorem kz2 (k : KZ) : k.cells.length = 2 := rfl
theorem kz1 (k : KZ) : k.cells.all (·.oneCell') = true := rfl
def KZ.lt (x y : KZ) : Prop := x.t < y.t ∨ (x.t = y.t ∧ x.s < y.s)
instance (x y : KZ) : Decidable (KZ.lt x y) := inferInstanceAs (Decidable (_ ∨ _))
def KZ.cf (x y : KZ) : Int := Tryd.orI (Tryd.cmpI x.t y.t) (Tryd.cmpI x.s y.s)
theorem KZ.lt_of (x y : KZ) : ltOf KZ.cf x y = decide (KZ.lt x y) := by
  unfold ltOf KZ.cf Tryd.orI Tryd.cmpI KZ.lt
  by_cases h1 : x.t < y.t
  · simp [h1]
  · by_cases h2 : y.t < x.t
    · have : ¬ x.t = y.t := by omega
      simp [h1, h2, this]
    · have h3 : x.t = y.t := by omega
      by_cases h4 : x.s < y.s
      · simp [h3, h4]
      · by_cases h5 : y.s < x.s <;> simp [h3, h4, h5]
theorem KZ.swo : SWO (ltOf KZ.cf) where
  irrefl x := by rw [KZ.lt_of]; simp [KZ.lt]
  trans x y z h1 h2 := by rw [KZ.lt_of, decide_eq_true_eq] at *; unfold KZ.lt at *; omega
  ntrans x y z h1 h2 := by rw [KZ.lt_of, decide_eq_false_iff_not] at *; unfold KZ.lt at *; omega
theorem flat_rows (d : Array KZ) : (Go.Sort.flatK KZ.cells 2 d).toList = rowsC KZ.cells d.toList := by
  apply List.ext_getElem?
  intro i
  by_cases hi : i < d.size * 2
  · have hq : i / 2 < d.toList.length := by simp; omega
    obtain ⟨x, hx⟩ : ∃ x, d.toList[i / 2]? = some x := ⟨_, List.getElem?_eq_getElem hq⟩
    have hat := rowsC_at kz2 hx
    have e1 : (rowsC KZ.cells d.toList)[i]? = x.cells[i % 2]? := by
      rw [← hat, List.getElem?_take, if_pos (Nat.mod_lt _ (by decide)), List.getElem?_drop, Nat.div_add_mod' i 2]
    rw [e1]
    have hd : d[i / 2]! = x := by
      have : d[i / 2]? = some x := by simpa using hx
      simp [getElem!_def, this]
    have h2 : i % 2 = 0 ∨ i % 2 = 1 := by omega
    simp only [Go.Sort.flatK, Array.toList_map, Array.toList_range, List.getElem?_map]
    rw [List.getElem?_range hi]
    simp only [Option.map_some, hd]
    rcases h2 with h2 | h2 <;> rw [h2] <;> rfl
  · rw [List.getElem?_eq_none (by simp; omega), List.getElem?_eq_none (by rw [rowsC_len kz2]; simp; omega)]
theorem setMany_all : ∀ (vs : List Value) (F : Array Value) (s : Nat), s + vs.length = F.size → (setMany F s vs).toList = F.toList.take s ++ vs
  | [], F, s, h => by
    simp only [setMany, List.append_nil]
    rw [List.take_of_length_le (by simp at h ⊢; omega)]
  | v :: r, F, s, h => by
    simp only [setMany]
    rw [setMany_all r _ (s + 1) (by simp at h ⊢; omega)]
    have hs : s < F.size := by simp at h; omega
    have e : (F.setIfInBounds s v).toList.take (s + 1) = F.toList.take s ++ [v] := by
      rw [Array.toList_setIfInBounds, List.take_set, List.take_add_one]
      have : F.toList[s]? = some F[s] := by simp [hs]
      rw [this, Option.toList_some]
      rw [List.set_append_right _ _ (by simp; omega)]
      simp [Nat.min_eq_left (Nat.le_of_lt hs)]
    rw [e, List.append_assoc]; rfl
theorem Sat.grown {W0 w : World} {H : Heap} (h : Sat W0 w H) (os : Array Obj) : Sat W0 (grow w os) H := by
  have hk : ∀ k, k < w.heap.size → (grow w os).heap[k]? = w.heap[k]? := fun k hk => by
    show (w.heap ++ os)[k]? = _
    rw [Array.getElem?_append_left hk]
  exact ⟨⟨h.below.os, h.below.tape, h.below.output, by have := h.below.size; simp; omega, fun k hk' => (hk k (by have := h.below.size; omega)).trans (h.below.block k hk')⟩, fun b o e => (h.rep b o e).of_block (by simp) (hk b (h.rep b o e).lt)⟩
set_option maxHeartbeats 1000000 in
theorem sortFunc_c {H : Heap} {blk off cap room : Nat} {ks : List KZ} {tail : List Value} (hrow : H blk = some (.row true off (rowsC KZ.cells ks ++ tail) room)) (hn : ks.length ≤ 1000000) :
    ECalls Tryd.prog 51 #[.slice (some ⟨blk, off, none⟩) ks.length cap, .func (.func 46) #[] #[]] H fun v H' =>
      v = .tuple #[] ∧ ∃ ks' : List KZ, ks'.Perm ks ∧ ks'.Pairwise (fun a b => ¬ KZ.lt b a) ∧ H' = upd H blk (.row true off (rowsC KZ.cells ks' ++ tail) room) := by
  intro W0 w hs
  have hr : RowRep W0.heap.size w blk true off (rowsC KZ.cells ks ++ tail) room := hs.rep blk _ hrow
  obtain ⟨hB, ht⟩ := hr.mine rfl
  have hlen := rowsC_len kz2 ks
  have hfl : (Go.Sort.flatK KZ.cells 2 ks.toArray).toList = rowsC KZ.cells ks := flat_rows ks.toArray
  have hH : HoldsK KZ.cells 2 w blk off ks.toArray := fun j hj => by
    have hj2 : j < ks.length * 2 := by simpa using hj
    have hget : (rowsC KZ.cells ks ++ tail)[j]? = some ((Go.Sort.flatK KZ.cells 2 ks.toArray)[j]!) := by
      rw [List.getElem?_append_left (by omega), ← hfl]
      have hj' : j < (Go.Sort.flatK KZ.cells 2 ks.toArray).size := hj
      rw [Array.getElem?_toList, Array.getElem?_eq_getElem hj', getElem!_pos _ j hj']
    have h2 := ht j (by rw [List.length_append, hlen]; omega)
    exact ⟨hr.range j _ hget, h2.2⟩
  have eg : ∀ args w, (callFunc 46 args).run Tryd.prog w = .ok (.enter 46 args) w := enters_of Tryd.func46 (by kernel_rfl) rfl
  have hcon := AnyQ.slices_SortFunc Tryd.sortKeys 2 Tryd.isAgg38 Tryd.sizeOf38 KZ.cells (fun _ => rfl) (fun x v hv => by simp [KZ.cells] at hv; rcases hv with rfl | rfl <;> rfl) KZ.cf KZ.swo 46 #[] blk off cap ks.toArray w eg
    (fun _ _ _ _ x y => Tryd.compare x.t x.s y.t y.s _) hH hr.lt (by simp; omega)
  simp only [List.size_toArray] at hcon
  change Calls Tryd.prog 51 _ _ _ at hcon
  refine hcon.mono ?_
  rintro e w' ⟨rfl, d', n, os, hp, hso, rfl⟩
  obtain ⟨hp1, _, hp2⟩ := hp
  have hsz : d'.size = ks.length := by simpa using hp1
  have hperm : d'.toList.Perm ks := by
    have e1 : d'.extract 0 ks.length = d' := by rw [← hsz]; exact Array.extract_size
    have e2 : ks.toArray.extract 0 ks.length = ks.toArray := by
      exact Array.extract_size (xs := ks.toArray)
    rw [e1, e2] at hp2
    exact hp2
  refine ⟨_, _, rfl, ⟨rfl, d'.toList, hperm, ?_, rfl⟩, ?_⟩
  · rw [List.pairwise_iff_getElem]
    intro i j hi hj hij
    have := hso i j (Nat.zero_le _) hij (by simp at hj ⊢; omega)
    rw [KZ.lt_of] at this
    have hi' : i < d'.size := by simpa using hi
    have hj' : j < d'.size := by simpa using hj
    rw [getElem!_pos d' i hi', getElem!_pos d' j hj'] at this
    simpa using this
  · have hset : (w.setCells blk off (rowsC KZ.cells d'.toList)) = putRowK KZ.cells 2 w blk off d' := by
      have h1 := putRowK_self (enc := KZ.cells) (k := 2) w blk off ks.toArray hH
      have h2 := setCells_putRow w blk off (rowsC KZ.cells d'.toList) 0 (Go.Sort.flatK KZ.cells 2 ks.toArray) (by rw [rowsC_len kz2]; simp [hsz])
      have h3 : setMany (Go.Sort.flatK KZ.cells 2 ks.toArray) 0 (rowsC KZ.cells d'.toList) = Go.Sort.flatK KZ.cells 2 d' := by
        apply Array.ext'
        rw [setMany_all _ _ _ (by rw [rowsC_len kz2]; simp [hsz]), List.take_zero, List.nil_append, flat_rows]
      rw [Nat.add_zero, h3] at h2
      have h4 : putRow id w blk off (Go.Sort.flatK KZ.cells 2 ks.toArray) = w := h1
      rw [h4] at h2
      exact h2
    have hw := hs.write hrow 0 (rowsC KZ.cells d'.toList) (Nat.zero_le _) (by rw [rowsC_len kz2, List.length_append, hlen]; simp [hsz]; omega)
    have hspl : splice (rowsC KZ.cells ks ++ tail) 0 (rowsC KZ.cells d'.toList) = rowsC KZ.cells d'.toList ++ tail := by
      unfold splice
      rw [List.take_zero, List.nil_append, Nat.zero_add, rowsC_len kz2]
      have : d'.toList.length * 2 = (rowsC KZ.cells ks).length := by rw [hlen]; simp [hsz]
      rw [this, List.drop_left]
    rw [Nat.add_zero, hset, hspl] at hw
    have hroom : (rowsC KZ.cells ks ++ tail).length + room - (rowsC KZ.cells d'.toList ++ tail).length = room := by
      rw [List.length_append, List.length_append, hlen, rowsC_len kz2]
      simp [hsz]
    rw [hroom] at hw
    exact (hw.drawn (w.drawn + n)).grown os
end Go.Proofs.YtfpighmafofoeaaDoor.GL
