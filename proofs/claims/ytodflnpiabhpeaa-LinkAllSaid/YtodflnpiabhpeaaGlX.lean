/- Bytes in slices in arguments: an inner slice without cells may have any address. -/
import Derived.Test.YtodflnpiabhpeaaGlV
import Derived.Test.YtodflnpiabhpeaaGlW
namespace Go.Proofs.Ytodflnpiabhpeaa.GL
open Go Go.RowKit
set_option linter.unusedSimpArgs false
set_option linter.unusedVariables false

/-- What bytes a slice has. -/
def ByA (H : Heap) (a : Option Addr) (n : Nat) (bs : List UInt8) : Prop := SlA H a n 1 (bs.map u8V) ∨ (n = 0 ∧ bs = [] ∧ ∃ b o y, a = some ⟨b, o, some y⟩)
theorem ByA.le {H H' : Heap} {a : Option Addr} {n : Nat} {bs : List UInt8} (h : ByA H a n bs) (hl : Heap.le H H') : ByA H' a n bs := h.imp (fun h => h.le hl) id
theorem ByA.len {H : Heap} {a : Option Addr} {n : Nat} {bs : List UInt8} (h : ByA H a n bs) : bs.length = n := by
  rcases h with h | ⟨rfl, rfl, _⟩
  · simpa using h.len
  · rfl
theorem conv_by {P : Program} {H : Heap} {K : Kont} {el : TypeId} {a : Option Addr} {n c : Nat} {bs : List UInt8} (hu : und P el = .int .u8) (h : ByA H a n bs) :
    convK P (.slice el) .str (.slice a n c) H K = K (.string (mkS bs)) H := by
  rcases h with h | ⟨rfl, rfl, b, o, y, rfl⟩
  · exact conv_bytes hu h
  · unfold convK qConvU
    simp only [hu]
    have := strOfNs_map []
    simp only [List.map_nil] at this
    rw [this]; simp [onSome]
theorem src_by {P : Program} {H : Heap} {e t1 e1 : TypeId} {a : Option Addr} {n c : Nat} {z : Value} {bs : List UInt8} (hu : und P t1 = .slice e1) (hs : sz P e = some 1) (hz : zeroV P e = some z) (h : ByA H a n bs) :
    srcOf P e t1 (.slice a n c) H = some (n, bs.map u8V) := by
  rcases h with h | ⟨rfl, rfl, b, o, y, rfl⟩
  · exact src_sl hu hs hz h
  · unfold srcOf
    simp only [hs, hz, hu]
    rfl

section
variable {H : Type} {enc : TypeId × Value → H} {P : Program} {W : World} {base : Nat} {t e : TypeId} {v : Value} {d : DataW H} {ps : List MemPlace} {fuel : Nat} {cs : List Value} {x : DataW H × List MemPlace}
/-- The cells of a slice of bytes, read. -/
theorem trod_bytes (ht : P.underlying t = some (.slice e)) (he : P.underlying e = some (.int .u8)) (hs : P.cellsOf e = 1) (h : DataW.trod enc P W 0 (fun _ => true) true fuel t cs = some x) :
    ∃ (a : Option Addr) (n c : Nat) (bs : List UInt8), cs = [.slice a n c] ∧ n ≤ c ∧ c ≤ maxLen ∧ ByA (heapOf W) a n bs := by
  obtain ⟨a, n, c, xs, m, el, rfl, hl, hm, hsl, hxl, hel, hx⟩ := open_slice ht hs (by decide) h
  obtain ⟨zs, rfl, hz⟩ := ints_of he (by simpa using hxl) hx hel
  rw [u8_list hz] at hsl
  refine ⟨a, n, c, zs.map fun z => UInt8.ofNat z.toNat, rfl, hl, hm, ?_⟩
  rcases hsl with ⟨rfl, rfl, hnil⟩ | hsl
  · have hbs : (zs.map fun z => UInt8.ofNat z.toNat) = [] := by simpa using hnil
    rw [hbs]
    cases a with
    | none => exact .inl (SlA.nil _ _)
    | some a =>
      obtain ⟨b, o, sp⟩ := a
      cases sp with
      | none => exact .inl (slA_heapOf (by simp) fun k hk => by simp at hk)
      | some y => exact .inr ⟨rfl, rfl, b, o, y, rfl⟩
  · exact .inl hsl
/-- An argument that is a slice of slices of bytes. -/
theorem arg_bytess (ht : P.underlying t = some (.slice e)) {u : TypeId} (he : P.underlying e = some (.slice u)) (hu : P.underlying u = some (.int .u8)) (hs : P.cellsOf e = 1) (hs1 : P.cellsOf u = 1) (hv : Value.okWide P W .any base t v) (h : DataW.Trod enc P W 0 (fun _ => true) true t v d ps) :
    ∃ (a : Option Addr) (n c : Nat) (xs : List Value), v = .slice a n c ∧ n ≤ c ∧ c ≤ maxLen ∧ SlA (heapOf W) a n 1 xs ∧ ∀ i, i < n → ∃ a' n' c' bs, xs[i]? = some (.slice a' n' c') ∧ n' ≤ c' ∧ ByA (heapOf W) a' n' bs := by
  obtain ⟨a, n, c, xs, m, el, rfl, hl, hm, hsl, hel, hx⟩ := arg_slice ht hs (by decide) hv h
  refine ⟨a, n, c, xs, rfl, hl, hm, hsl, fun i hi => ?_⟩
  have h1 := hx i hi
  rw [List.getElem?_eq_getElem (by omega)] at h1
  obtain ⟨a', n', c', bs, hcs, hl', _, hb⟩ := trod_bytes he hu hs1 h1
  refine ⟨a', n', c', bs, ?_, hl', hb⟩
  have hlen := hsl.len
  have hi' : i < xs.length := by omega
  rw [Nat.mul_one, List.drop_eq_getElem_cons hi', List.take_succ_cons, List.take_zero] at hcs
  rw [List.getElem?_eq_getElem hi']
  simpa using hcs
end
end Go.Proofs.Ytodflnpiabhpeaa.GL
