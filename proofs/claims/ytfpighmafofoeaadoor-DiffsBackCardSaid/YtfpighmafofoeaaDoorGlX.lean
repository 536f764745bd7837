/- Bytes in slices in arguments: an inner slice without cells may have any address. -/
import Derived.Test.YtfpighmafofoeaaDoorGlV
import Derived.Test.YtfpighmafofoeaaDoorGlW
namespace Go.Proofs.YtfpighmafofoeaaDoor.GL
open Go Go.RowKit
set_option linter.unusedSimpArgs false
set_option linter.unusedVariables false

section
variable {H : Type} {enc : TypeId × Value → H} {P : Program} {W : World} {base : Nat} {t e : TypeId} {v : Value} {d : DataW H} {ps : List MemPlace} {fuel : Nat} {cs : List Value} {x : DataW H × List MemPlace}
/-- An argument that is a slice of slices of bytes. -/
theorem arg_bytess (ht : P.underlying t = some (.slice e)) {u : TypeId} (he : P.underlying e = some (.slice u)) (hu : P.underlying u = some (.int .u8)) (hs : P.cellsOf e = 1) (hs1 : P.cellsOf u = 1) (hv : Value.okWide P W .any base t v) (h : DataW.Trod enc P W 0 (fun _ => true) true t v d ps) :
    ∃ (a : Option Addr) (n c : Nat) (xs : List Value), v = .slice a n c ∧ n ≤ c ∧ c ≤ maxLen ∧ SlA (heapOf W) a n 1 xs ∧ ∀ i, i < n → ∃ a' n' c' bs, xs[i]? = some (.slice a' n' c') ∧ n' ≤ c' ∧ ByA (heapOf W) a' n' bs := by
  obtain ⟨a, n, c, xs, m, el, rfl, hl, hm, hsl, hel, hx⟩ := arg_slice ht hs (by decide) hv h
  refine ⟨a, n, c, xs, rfl, hl, hm, hsl, fun i hi => ?_⟩
  have h1 := hx i hi
  rw [List.getElem?_eq_getElem (by omega)] at h1
  obtain ⟨a', n', c', bs, hcs, hl', _, hb⟩ := trod_bytes he hu hs1 h1
  refine ⟨a', n', c', bs, ?_, hl', hb⟩
  have hlen := hsl.len
  have hi' : i < xs.length := by omega
  rw [Nat.mul_one, List.drop_eq_getElem_cons hi', List.take_succ_cons, List.take_zero] at hcs
  rw [List.getElem?_eq_getElem hi']
  simpa using hcs
end
end Go.Proofs.YtfpighmafofoeaaDoor.GL
