/- Layer 20: maps.Keys's iterator gives the keys of a map, each once. -/
import Derived.Test.YtfpighmafofoeaaDoorSoC
import Derived.RangeFuncStops
import Derived.RangeFuncOwn
namespace Go.Proofs.YtfpighmafofoeaaDoor.GL
open Go Go.RowKit Go.Shelf
set_option maxRecDepth 100000
set_option pp.deepTerms.threshold 8
set_option pp.maxSteps 3000
set_option linter.unusedSimpArgs false
set_option linter.unusedVariables false

theorem iter_walk {w : World} {r m a c : Nat} {s : Array Nat} (h : w.heap[r]? = some (.mapIter (some m) a s c)) : ∃ o : Obj, w.heap[r]? = some o ∧ o.isWalk = true := ⟨_, h, rfl⟩
theorem grown_set {w : World} {n' r : Nat} {o : Obj} : w.grownBy { w with drawn := n', heap := w.heap.setIfInBounds r o } (some r) :=
  ⟨rfl, rfl, rfl, by simp, fun k _ hk => by
    have : r ≠ k := fun e => hk (by rw [e])
    simp [Array.getElem?_setIfInBounds, this]⟩
set_option maxHeartbeats 4000000 in
theorem keys_give (F : Fence) (n : Nat) (hF : F.fn 52) (hro : F.round = none) (hn : 1 ≤ n) (Bm m ck : Nat) (ents : Array MapEntry) (w : World) (hm : w.cell? ⟨Bm, 0, none⟩ = some (.map (some m))) (hBm : Bm < w.heap.size) (hb : w.heap[m]? = some (.map ents ck)) (hlt : ∀ e ∈ ents.toList, e.born < ck) (hnd : (ents.toList.map (·.born)).Nodup) (ks : List KZ) (hk : ents.toList.map (·.key) = ks.map encK) :
    SeqStops F n Tryd.prog 52 #[.pointer (some ⟨Bm, 0, none⟩)] encK (fun xs => xs.Perm ks) (fun _ => True) ents.size w := by
  intro l J Jx W hW hJ hJx hY h0
  have hmlt : m < w.heap.size := (Array.getElem?_eq_some_iff.1 hb).1
  have hm1 : W.cell? ⟨Bm, 0, none⟩ = some (.map (some m)) := (hW.cell (p := ⟨Bm, 0, none⟩) hBm).trans hm
  have hb1 : W.heap[m]? = some (.map ents ck) := (hW.block m hmlt).trans hb
  have hrg := run_range_map (P := Tryd.prog) W 73 38 40 m ents ck Tryd.underlying73 hb1
  obtain ⟨W0, hW0⟩ : ∃ W0, W.alloc (.mapIter (some m) ck #[] ck) = W0 := ⟨_, rfl⟩
  rw [hW0] at hrg
  have hi0 : W0.heap[W.heap.size]? = some (.mapIter (some m) ck #[] ck) := by rw [← hW0]; exact World.alloc_heap_new W _
  have hb0 : W0.heap[m]? = some (.map ents ck) := by rw [← hW0]; exact (Below.heap_alloc _ _ m (by have := hW.size; omega)).trans hb1
  have hJ0 : J [] W0 := hJ [] W W0 none h0 (by rw [← hW0]; exact World.grownBy_alloc W _ none) (fun r e => by cases e)
  refine callsIn_of_wp Tryd.func52 rfl hF ?_ hro
  simp only [Tryd.ntmps52, List.size_toArray, List.length_cons, List.length_nil, Nat.reduceAdd, Nat.reduceSub, Array.replicate_succ, Array.replicate_zero, List.push_toArray, List.append_toArray, List.nil_append, List.cons_append]
  clear hW0
  gi_wp2
  gi_loopw [3] (fun _ wr => ∃ (seen : Array Nat) (ss : List KZ), wr.heap[W.heap.size]? = some (.mapIter (some m) ck seen ck) ∧ wr.heap[m]? = some (.map ents ck) ∧ CameK ents.toList seen.toList ss ∧ J ss wr)
    (fun _ wr => (leftOf ents (wr.iterSeen W.heap.size)).size)
  case atStart =>
    exact ⟨#[], [], hi0, hb0, ⟨[], (fun e h => by cases h), rfl, List.nodup_nil, rfl⟩, hJ0⟩
  case round =>
    obtain ⟨seen, ss, hi, hbm, hC, hJs⟩ := hrel
    have hit : wr.iterSeen W.heap.size = seen := by unfold World.iterSeen; rw [hi]
    rcases run_next_at (P := Tryd.prog) hi hbm hlt with ⟨hall, hrun⟩ | ⟨e, he, hns, n', hrun⟩
    · gi_wp2
      go_end0
      exact ⟨⟨_, rfl⟩, .inl ⟨ss, hC.all hnd hall hk, hJs⟩⟩
    · obtain ⟨W2, hW2⟩ : ∃ W2 : World, { wr with drawn := n', heap := wr.heap.setIfInBounds W.heap.size (.mapIter (some m) ck (seen.push e.born) ck) } = W2 := ⟨_, rfl⟩
      rw [hW2] at hrun
      have hsz : W.heap.size < wr.heap.size := (Array.getElem?_eq_some_iff.1 hi).1
      have hi2 : W2.heap[W.heap.size]? = some (.mapIter (some m) ck (seen.push e.born) ck) := by rw [← hW2]; simp [hsz]
      have hmne : ¬ W.heap.size = m := by have := hW.size; omega
      have hbm2 : W2.heap[m]? = some (.map ents ck) := by rw [← hW2]; simp [Array.getElem?_setIfInBounds, hmne]; exact hbm
      have hJ2 : J ss W2 := hJ ss wr W2 (some W.heap.size) hJs (by rw [← hW2]; exact grown_set) (fun r e => by cases e; exact ⟨Nat.le_refl _, iter_walk hi⟩)
      have hen := run_entry_at (P := Tryd.prog) hi2 hbm2 he hnd
      obtain ⟨x, hx⟩ : ∃ x, e.key = encK x := by
        have : e.key ∈ ks.map encK := by rw [← hk]; exact List.mem_map_of_mem (f := fun e : MapEntry => e.key) he
        obtain ⟨x, _, hx⟩ := List.mem_map.1 this
        exact ⟨x, hx.symm⟩
      have hlen := hC.len he hns
      have hC2 := hC.step he hns hx
      rw [hx] at hrun hen
      unfold encK at hrun hen
      clear hW2
      obtain ⟨W3, hW3⟩ : ∃ W3, W2.alloc (.cells #[.int .u16 x.t, .int .u32 x.s] 38) = W3 := ⟨_, rfl⟩
      have hJ3 : J ss W3 := hJ ss W2 W3 none hJ2 (by rw [← hW3]; exact World.grownBy_alloc W2 _ none) (fun r e => by cases e)
      have hi3 : W3.heap[W.heap.size]? = some (.mapIter (some m) ck (seen.push e.born) ck) := by rw [← hW3]; exact (Below.heap_alloc _ _ _ (Array.getElem?_eq_some_iff.1 hi2).1).trans hi2
      have hbm3 : W3.heap[m]? = some (.map ents ck) := by rw [← hW3]; exact (Below.heap_alloc _ _ _ (Array.getElem?_eq_some_iff.1 hbm2).1).trans hbm2
      obtain ⟨fn, tmps, assign, body, hy, hR⟩ := hY ss x W3 hJ3 (by simpa using hlen)
      unfold encK at hy
      subst hW3
      gi_wp2
      refine hR.mono ?_
      rintro e' W4 (⟨rfl, hJ4, hk4⟩ | ⟨rfl, hJx4⟩)
      · have hi4 := hk4.same _ _ hi3 rfl
        have hbm4 := hk4.same _ _ hbm3 rfl
        have hit4 : W4.iterSeen W.heap.size = seen.push e.born := by unfold World.iterSeen; rw [hi4]
        clear hy hR hrun hen
        gi_wp2
        go_roundw
        case rel => exact ⟨seen.push e.born, ss ++ [x], hi4, hbm4, by simpa using hC2, hJ4⟩
        case measure =>
          rw [hit4, hit]
          exact left_shrinks ents seen e (by
            unfold leftOf
            rw [Array.toList_filter]
            exact List.mem_filter.2 ⟨he, by simpa using hns⟩)
      · clear hy hR hrun hen
        gi_wp2
        refine bodyPost_ret (results_none rfl _ _ _) rfl ?_
        exact ⟨⟨_, rfl⟩, .inr ⟨ss ++ [x], trivial, hJx4⟩⟩
end Go.Proofs.YtfpighmafofoeaaDoor.GL
