/- Layer 20: the order of keys (stan.Compare), in whatever world. -/
import Derived.Test.YtfpighmafofoeaaDoorSoL
import Derived.Shelf.SlSortCmp.WholeK
import Derived.WalkKit
import Derived.ProofKit
import Derived.Deep.RegionWith
import Derived.Test.YtfpighmafofoeaaDoorChecked
namespace Go.Proofs
open Go.Shelf Go.RowKit Go.Lib Go.Sort
def Tryd.cmpI (a b : Int) : Int := if a < b then -1 else if b < a then 1 else 0
set_option maxHeartbeats 1000000 in
theorem Tryd.cmp16 (a b : Int) (W : World) : Calls Tryd.prog 54 #[.int .u16 a, .int .u16 b] W fun e w' => e = .returned (.int .i64 (Tryd.cmpI a b)) ∧ w' = W := by
  go_enter Tryd.func54, Tryd.ntmps54
  go_wp2
  all_goals go_ret
  · have e : Tryd.cmpI a b = -1 := by rw [Tryd.cmpI, if_pos (by assumption)]
    rw [e]; exact ⟨rfl, rfl⟩
  · have h1 : b ≤ a := by assumption
    have h2 : b < a := by assumption
    have e : Tryd.cmpI a b = 1 := by rw [Tryd.cmpI, if_neg (by omega), if_pos h2]
    rw [e]; exact ⟨rfl, rfl⟩
  · have h1 : b ≤ a := by assumption
    have h2 : a ≤ b := by assumption
    have e : Tryd.cmpI a b = 0 := by rw [Tryd.cmpI, if_neg (by omega), if_neg (by omega)]
    rw [e]; exact ⟨rfl, rfl⟩
set_option maxHeartbeats 1000000 in
theorem Tryd.cmp32 (a b : Int) (W : World) : Calls Tryd.prog 55 #[.int .u32 a, .int .u32 b] W fun e w' => e = .returned (.int .i64 (Tryd.cmpI a b)) ∧ w' = W := by
  go_enter Tryd.func55, Tryd.ntmps55
  go_wp2
  all_goals go_ret
  · have e : Tryd.cmpI a b = -1 := by rw [Tryd.cmpI, if_pos (by assumption)]
    rw [e]; exact ⟨rfl, rfl⟩
  · have h1 : b ≤ a := by assumption
    have h2 : b < a := by assumption
    have e : Tryd.cmpI a b = 1 := by rw [Tryd.cmpI, if_neg (by omega), if_pos h2]
    rw [e]; exact ⟨rfl, rfl⟩
  · have h1 : b ≤ a := by assumption
    have h2 : a ≤ b := by assumption
    have e : Tryd.cmpI a b = 0 := by rw [Tryd.cmpI, if_neg (by omega), if_neg (by omega)]
    rw [e]; exact ⟨rfl, rfl⟩
theorem Tryd.cell_new (w : World) (cs : Array Value) (t : TypeId) (n : Nat) (hn : n = w.heap.size) (i : Nat) : (w.alloc (.cells cs t)).drew.cell? ⟨n, i, none⟩ = cs[i]? := by
  subst hn
  show (match (w.heap.push (.cells cs t))[w.heap.size]? with | some (.cells c _ _) => c[i]? | _ => none) = _
  rw [Array.getElem?_push, if_pos rfl]
def Tryd.orI (a b : Int) : Int := if a = 0 then b else a
set_option maxHeartbeats 4000000 in
theorem Tryd.cmpOr (x y : Int) (bk : Nat) (W : World) (h0 : W.cell? ⟨bk, 0, none⟩ = some (.int .i64 x)) (h1 : W.cell? ⟨bk, 1, none⟩ = some (.int .i64 y)) : Calls Tryd.prog 53 #[.slice (some ⟨bk, 0, none⟩) 2 2] W fun e w' => e = .returned (.int .i64 (Tryd.orI x y)) ∧ w' = W := by
  go_enter Tryd.func53, Tryd.ntmps53
  go_wp2
  go_loop [5, 8] (fun t i => ∃ (k : Nat), k ≤ 2 ∧ i = .int .i64 k ∧ (0 < k → x = 0) ∧ (1 < k → y = 0)) (fun _ i => 2 - (intOf i).toNat)
  case atStart => exact ⟨0, by omega, rfl, by omega, by omega⟩
  case round =>
    obtain ⟨k, hk, rfl, hx, hy⟩ := hrel
    have hk3 : k = 0 ∨ k = 1 ∨ k = 2 := by omega
    rcases hk3 with rfl | rfl | rfl
    · go_wp2
      · go_ret
        have hx0 : (x != 0) = true := by assumption
        have hx1 : x ≠ 0 := by simpa using hx0
        rw [Tryd.orI, if_neg hx1]; exact ⟨rfl, rfl⟩
      · have hx0 : (x != 0) = false := by assumption
        have hx1 : x = 0 := by simpa using hx0
        exact ⟨⟨1, by omega, rfl, fun _ => hx1, by omega⟩, by simp [intOf]⟩
    · have hx1 : x = 0 := hx (by omega)
      subst hx1
      go_wp2
      · go_ret
        rw [Tryd.orI, if_pos rfl]; exact ⟨rfl, rfl⟩
      · have hx0 : (y != 0) = false := by assumption
        have hx1 : y = 0 := by simpa using hx0
        exact ⟨⟨2, by omega, rfl, by simp, fun _ => hx1⟩, by simp [intOf]⟩
    · have hx1 : x = 0 := hx (by omega)
      have hy1 : y = 0 := hy (by omega)
      subst hx1 hy1
      go_wp2
      go_ret
      exact ⟨rfl, rfl⟩
set_option maxHeartbeats 4000000 in
theorem Tryd.compare (a b c d : Int) (W : World) : Calls Tryd.prog 46 #[.agg #[.int .u16 a, .int .u32 b], .agg #[.int .u16 c, .int .u32 d]] W fun e w' => e = .returned (.int .i64 (Tryd.orI (Tryd.cmpI a c) (Tryd.cmpI b d))) ∧ ∃ q os', w' = grow (W.drewN q) os' := by
  have c1 := fun w => Tryd.cmp16 a c w
  have c2 := fun w => Tryd.cmp32 b d w
  generalize Tryd.cmpI a c = x at *
  generalize Tryd.cmpI b d = y at *
  go_enter Tryd.func46, Tryd.ntmps46
  go_wp2
  go_region_with (first
    | (go_at_call 54; refine (c1 _).mono ?_; rintro e w' ⟨rfl, rfl⟩)
    | (go_at_call 55; refine (c2 _).mono ?_; rintro e w' ⟨rfl, rfl⟩)
    | (go_at_call 53; refine (Tryd.cmpOr x y _ _ ((Tryd.cell_new _ _ _ _ (by simp) _).trans rfl) ((Tryd.cell_new _ _ _ _ (by simp) _).trans rfl)).mono ?_; rintro e w' ⟨rfl, rfl⟩))
  all_goals (go_wp2; go_ret; exact ⟨rfl, 1, _, by rw [alloc_eq_grow, alloc_eq_grow, alloc_eq_grow, grow_grow, grow_grow]; rfl⟩)
end Go.Proofs
