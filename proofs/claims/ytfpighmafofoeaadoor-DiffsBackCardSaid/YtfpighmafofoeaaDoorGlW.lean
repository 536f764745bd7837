/- The cells of a struct, of an array, of arrays of structs: what each leaf holds. -/
import Derived.Test.YtfpighmafofoeaaDoorGlV
import Derived.OpenShut
import Derived.ChangeArms
namespace Go.Proofs.YtfpighmafofoeaaDoor.GL
open Go Go.RowKit
set_option linter.unusedSimpArgs false
set_option linter.unusedVariables false

/-- What bytes a slice has. -/
def ByA (H : Heap) (a : Option Addr) (n : Nat) (bs : List UInt8) : Prop := SlA H a n 1 (bs.map u8V) ∨ (n = 0 ∧ bs = [] ∧ ∃ b o y, a = some ⟨b, o, some y⟩)
theorem ByA.le {H H' : Heap} {a : Option Addr} {n : Nat} {bs : List UInt8} (h : ByA H a n bs) (hl : Heap.le H H') : ByA H' a n bs := h.imp (fun h => h.le hl) id
theorem ByA.len {H : Heap} {a : Option Addr} {n : Nat} {bs : List UInt8} (h : ByA H a n bs) : bs.length = n := by
  rcases h with h | ⟨rfl, rfl, _⟩
  · simpa using h.len
  · rfl
theorem conv_by {P : Program} {H : Heap} {K : Kont} {el : TypeId} {a : Option Addr} {n c : Nat} {bs : List UInt8} (hu : und P el = .int .u8) (h : ByA H a n bs) :
    convK P (.slice el) .str (.slice a n c) H K = K (.string (mkS bs)) H := by
  rcases h with h | ⟨rfl, rfl, b, o, y, rfl⟩
  · exact conv_bytes hu h
  · unfold convK qConvU
    simp only [hu]
    have := strOfNs_map []
    simp only [List.map_nil] at this
    rw [this]; simp [onSome]
theorem src_by {P : Program} {H : Heap} {e t1 e1 : TypeId} {a : Option Addr} {n c : Nat} {z : Value} {bs : List UInt8} (hu : und P t1 = .slice e1) (hs : sz P e = some 1) (hz : zeroV P e = some z) (h : ByA H a n bs) :
    srcOf P e t1 (.slice a n c) H = some (n, bs.map u8V) := by
  rcases h with h | ⟨rfl, rfl, b, o, y, rfl⟩
  · exact src_sl hu hs hz h
  · unfold srcOf
    simp only [hs, hz, hu]
    rfl

/-- What truths a slice has. -/
def BoA (H : Heap) (a : Option Addr) (n : Nat) (ks : List Bool) : Prop := SlA H a n 1 (ks.map Value.bool) ∨ (n = 0 ∧ ks = [] ∧ ∃ b o y, a = some ⟨b, o, some y⟩)
theorem BoA.le {H H' : Heap} {a : Option Addr} {n : Nat} {ks : List Bool} (h : BoA H a n ks) (hl : Heap.le H H') : BoA H' a n ks := h.imp (fun h => h.le hl) id
theorem BoA.len {H : Heap} {a : Option Addr} {n : Nat} {ks : List Bool} (h : BoA H a n ks) : ks.length = n := by
  rcases h with h | ⟨rfl, rfl, _⟩
  · simpa using h.len
  · rfl
theorem BoA.sl {H : Heap} {a : Option Addr} {n : Nat} {ks : List Bool} (h : BoA H a n ks) (hn : 0 < n) : SlA H a n 1 (ks.map Value.bool) := by
  rcases h with h | ⟨rfl, _, _⟩
  · exact h
  · cases hn
section
variable {H : Type} {enc : TypeId × Value → H} {P : Program} {W : World} {base : Nat} {t e : TypeId} {v : Value} {d : DataW H} {ps : List MemPlace} {fuel : Nat} {cs : List Value} {x : DataW H × List MemPlace}
/-- The cells of a slice of bytes, read. -/
theorem trod_bytes (ht : P.underlying t = some (.slice e)) (he : P.underlying e = some (.int .u8)) (hs : P.cellsOf e = 1) (h : DataW.trod enc P W 0 (fun _ => true) true fuel t cs = some x) :
    ∃ (a : Option Addr) (n c : Nat) (bs : List UInt8), cs = [.slice a n c] ∧ n ≤ c ∧ c ≤ maxLen ∧ ByA (heapOf W) a n bs := by
  obtain ⟨a, n, c, xs, m, el, rfl, hl, hm, hsl, hxl, hel, hx⟩ := open_slice ht hs (by decide) h
  obtain ⟨zs, rfl, hz⟩ := ints_of he (by simpa using hxl) hx hel
  rw [u8_list hz] at hsl
  refine ⟨a, n, c, zs.map fun z => UInt8.ofNat z.toNat, rfl, hl, hm, ?_⟩
  rcases hsl with ⟨rfl, rfl, hnil⟩ | hsl
  · have hbs : (zs.map fun z => UInt8.ofNat z.toNat) = [] := by simpa using hnil
    rw [hbs]
    cases a with
    | none => exact .inl (SlA.nil _ _)
    | some a =>
      obtain ⟨b, o, sp⟩ := a
      cases sp with
      | none => exact .inl (slA_heapOf (by simp) fun k hk => by simp at hk)
      | some y => exact .inr ⟨rfl, rfl, b, o, y, rfl⟩
  · exact .inl hsl
theorem bools_of {xs : List Value} {el : List (DataW H × List MemPlace)} {m n : Nat} (he : P.underlying e = some .bool) (hl : xs.length = n) (h : ∀ i, i < n → DataW.trod enc P W 0 (fun _ => true) true m e ((xs.drop (i * 1)).take 1) = el[i]?) (hel : el.length = n) :
    ∃ ks : List Bool, xs = ks.map Value.bool := by
  subst hl
  induction xs generalizing el with
  | nil => exact ⟨[], rfl⟩
  | cons y ys ih =>
    cases el with
    | nil => simp at hel
    | cons x0 el =>
      have h0 := h 0 (by simp)
      simp only [Nat.zero_mul, List.drop_zero, List.take_succ_cons, List.take_zero, List.getElem?_cons_zero] at h0
      obtain ⟨ks, rfl⟩ := ih (el := el) (fun i hi => by
        have := h (i + 1) (by simpa using hi)
        simpa using this) (by simpa using hel)
      cases m with
      | zero => simp [DataW.trod] at h0
      | succ m =>
        unfold DataW.trod at h0
        rw [he] at h0
        split at h0 <;> simp_all <;> first | exact ⟨_ :: ks, rfl⟩ | skip
/-- The cells of a slice of truths, read. -/
theorem trod_bools (ht : P.underlying t = some (.slice e)) (he : P.underlying e = some .bool) (hs : P.cellsOf e = 1) (h : DataW.trod enc P W 0 (fun _ => true) true fuel t cs = some x) :
    ∃ (a : Option Addr) (n c : Nat) (ks : List Bool), cs = [.slice a n c] ∧ n ≤ c ∧ c ≤ maxLen ∧ BoA (heapOf W) a n ks := by
  obtain ⟨a, n, c, xs, m, el, rfl, hl, hm, hsl, hxl, hel, hx⟩ := open_slice ht hs (by decide) h
  obtain ⟨ks, rfl⟩ := bools_of he (by simpa using hxl) hx hel
  refine ⟨a, n, c, ks, rfl, hl, hm, ?_⟩
  rcases hsl with ⟨rfl, rfl, hnil⟩ | hsl
  · have hbs : ks = [] := by simpa using hnil
    rw [hbs]
    cases a with
    | none => exact .inl (SlA.nil _ _)
    | some a =>
      obtain ⟨b, o, sp⟩ := a
      cases sp with
      | none => exact .inl (slA_heapOf (by simp) fun k hk => by simp at hk)
      | some y => exact .inr ⟨rfl, rfl, b, o, y, rfl⟩
  · exact .inl hsl
end

inductive Leaf where
  | int (k : IntKind)
  | bool
  | str
  | bytes
  | bools
def LeafOk (M : Heap) : Leaf → Value → Prop
  | .int k, v => ∃ z, v = .int k z ∧ (Lit.int k z).wf = true
  | .bool, v => ∃ b, v = .bool b
  | .str, v => ∃ s, v = .string s ∧ s.size ≤ maxLen
  | .bytes, v => ∃ a n c bs, v = .slice a n c ∧ n ≤ c ∧ c ≤ maxLen ∧ ByA M a n bs
  | .bools, v => ∃ a n c ks, v = .slice a n c ∧ n ≤ c ∧ c ≤ maxLen ∧ BoA M a n ks
def Fits (M : Heap) : List Leaf → List Value → Prop
  | [], [] => True
  | l :: ls, v :: vs => LeafOk M l v ∧ Fits M ls vs
  | _, _ => False
theorem Fits.len {M : Heap} : ∀ {ls : List Leaf} {vs : List Value}, Fits M ls vs → vs.length = ls.length
  | [], [], _ => rfl
  | l :: ls, v :: vs, h => by simp [Fits.len h.2]
  | [], _ :: _, h => h.elim
  | _ :: _, [], h => h.elim
theorem Fits.append {M : Heap} : ∀ {a b : List Leaf} {vs : List Value}, Fits M a (vs.take a.length) → Fits M b (vs.drop a.length) → Fits M (a ++ b) vs
  | [], b, vs, _, h => by simpa using h
  | l :: a, b, [], h, _ => by simp [Fits] at h
  | l :: a, b, v :: vs, h, hb => by
    simp only [List.length_cons, List.take_succ_cons] at h
    simp only [List.length_cons, List.drop_succ_cons] at hb
    exact ⟨h.1, Fits.append h.2 hb⟩
theorem Fits.cons {M : Heap} {l : Leaf} {ls : List Leaf} {vs : List Value} (h : Fits M (l :: ls) vs) : ∃ v r, vs = v :: r ∧ LeafOk M l v ∧ Fits M ls r := by
  cases vs with
  | nil => exact h.elim
  | cons v r => exact ⟨v, r, rfl, h.1, h.2⟩
theorem Fits.nil {M : Heap} {vs : List Value} (h : Fits M [] vs) : vs = [] := by
  cases vs with
  | nil => rfl
  | cons v r => exact h.elim

def leavesF (P : Program) (g : TypeId → Option (List Leaf)) : List Field → Nat → Option (List Leaf)
  | [], _ => some []
  | f :: r, off => match g f.type with
    | some l => if f.offset = off ∧ P.cellsOf f.type = l.length then (leavesF P g r (off + l.length)).map (l ++ ·) else none
    | none => none
def leaves (P : Program) : Nat → TypeId → Option (List Leaf)
  | 0, _ => none
  | d + 1, t => match P.underlying t with
    | some (.int k) => some [.int k]
    | some .bool => some [.bool]
    | some .string => some [.str]
    | some (.array n e) => match leaves P d e with
      | some l => if P.cellsOf e = l.length ∧ P.cellsOf t = n * l.length then some (List.replicate n l).flatten else none
      | none => none
    | some (.struct fs) => match leavesF P (leaves P d) fs.toList 0 with
      | some l => if P.cellsOf t = l.length then some l else none
      | none => none
    | some (.slice e) => match P.underlying e with
      | some (.int .u8) => if P.cellsOf e = 1 then some [.bytes] else none
      | some .bool => if P.cellsOf e = 1 then some [.bools] else none
      | _ => none
    | _ => none

section
variable {H : Type} {enc : TypeId × Value → H} {P : Program} {W : World} {base : Nat} {t e : TypeId} {v : Value} {d : DataW H} {ps : List MemPlace}

theorem fits_rep {M : Heap} {l : List Leaf} {m : Nat} : ∀ {n : Nat} {cs : List Value}, m = l.length → cs.length = n * m → (∀ i, i < n → Fits M l ((cs.drop (i * m)).take m)) → Fits M (List.replicate n l).flatten cs
  | 0, cs, hm, hc, h => by
    have : cs = [] := List.length_eq_zero_iff.1 (by omega)
    subst this; exact trivial
  | n + 1, cs, hm, hc, h => by
    rw [List.replicate_succ, List.flatten_cons]
    refine Fits.append ?_ ?_
    · have := h 0 (by omega)
      rw [Nat.zero_mul, List.drop_zero, hm] at this
      exact this
    · refine fits_rep (m := m) hm ?_ fun i hi => ?_
      · rw [List.length_drop, hc, ← hm, Nat.succ_mul]; omega
      · have := h (i + 1) (by omega)
        rw [List.drop_drop, ← hm, show m + i * m = (i + 1) * m by rw [Nat.succ_mul]; omega]
        exact this

theorem fits_fields {M : Heap} {g : TypeId → Option (List Leaf)} {m : Nat} (hg : ∀ (t : TypeId) (l : List Leaf) (cs : List Value) (x : DataW H × List MemPlace), g t = some l → DataW.trod enc P W 0 (fun _ => true) true m t cs = some x → Fits M l cs) :
    ∀ {r : List Field} {off : Nat} {ls : List Leaf} {cs : List Value}, leavesF P g r off = some ls → (∀ f ∈ r, ∃ x, DataW.trod enc P W 0 (fun _ => true) true m f.type ((cs.drop f.offset).take (P.cellsOf f.type)) = some x) → off + ls.length = cs.length → Fits M ls (cs.drop off)
  | [], off, ls, cs, hl, _, hlen => by
    simp only [leavesF, Option.some.injEq] at hl
    subst hl
    rw [List.drop_eq_nil_of_le (by simp at hlen; omega)]
    exact trivial
  | f :: r, off, ls, cs, hl, hx, hlen => by
    unfold leavesF at hl
    cases hgt : g f.type with
    | none => rw [hgt] at hl; cases hl
    | some l =>
      rw [hgt] at hl
      simp only at hl
      split at hl
      · rename_i hc
        obtain ⟨l2, h2, rfl⟩ := Option.map_eq_some_iff.1 hl
        obtain ⟨x, hx0⟩ := hx f (by simp)
        have h1 := hg f.type l _ x hgt hx0
        rw [hc.1, hc.2] at h1
        refine Fits.append h1 ?_
        rw [List.drop_drop]
        exact fits_fields hg h2 (fun f' hf' => hx f' (List.mem_cons_of_mem _ hf')) (by simp at hlen; omega)
      · cases hl

theorem trod_leaves : ∀ (dp : Nat) (fuel : Nat) (t : TypeId) (ls : List Leaf) (cs : List Value) (x : DataW H × List MemPlace), leaves P dp t = some ls → DataW.trod enc P W 0 (fun _ => true) true fuel t cs = some x → Fits (heapOf W) ls cs
  | 0, _, _, _, _, _, hl, _ => by simp [leaves] at hl
  | dp + 1, fuel, t, ls, cs, x, hl, h => by
    unfold leaves at hl
    split at hl
    · rename_i k ht
      obtain ⟨z, rfl, _, hw⟩ := DataW.trod_int ht h
      cases hl
      exact ⟨⟨z, rfl, hw⟩, trivial⟩
    · rename_i ht
      cases hl
      cases fuel with
      | zero => simp [DataW.trod] at h
      | succ m =>
        unfold DataW.trod at h
        rw [ht] at h
        split at h <;> simp_all <;> first | exact ⟨⟨_, rfl⟩, trivial⟩ | skip
    · rename_i ht
      cases hl
      cases fuel with
      | zero => simp [DataW.trod] at h
      | succ m =>
        unfold DataW.trod at h
        rw [ht] at h
        split at h <;> simp_all <;> first | exact ⟨⟨_, rfl, h.1⟩, trivial⟩ | skip
    · rename_i n e ht
      cases hle : leaves P dp e with
      | none => rw [hle] at hl; cases hl
      | some l =>
        rw [hle] at hl
        simp only at hl
        split at hl
        · rename_i hc
          cases hl
          obtain ⟨xs, m, _, _, hlen, hxl, hx⟩ := DataW.trod_array ht h
          rw [hc.2] at hlen
          refine fits_rep rfl hlen fun i hi => ?_
          have := hx i hi
          rw [List.getElem?_eq_getElem (by omega), hc.1] at this
          exact trod_leaves dp m e l _ _ hle this
        · cases hl
    · rename_i fs ht
      cases hle : leavesF P (leaves P dp) fs.toList 0 with
      | none => rw [hle] at hl; cases hl
      | some l =>
        rw [hle] at hl
        simp only at hl
        split at hl
        · rename_i hc
          cases hl
          obtain ⟨xs, m, _, _, hlen, hxl, hx⟩ := DataW.trod_struct ht h
          have := fits_fields (H := H) (enc := enc) (P := P) (W := W)  (g := leaves P dp) (m := m) (fun t' l' cs' x' h1 h2 => trod_leaves dp m t' l' cs' x' h1 h2) (r := fs.toList) (off := 0) (cs := cs) hle (fun f hf => by
            obtain ⟨i, hi⟩ := List.mem_iff_getElem?.1 hf
            have h1 := hx i f (by simpa using hi)
            have hlt : i < xs.length := by
              have := (List.getElem?_eq_some_iff.1 hi).1
              rw [Array.length_toList] at this
              omega
            rw [List.getElem?_eq_getElem hlt] at h1
            exact ⟨_, h1⟩) (by omega)
          simpa using this
        · cases hl
    · rename_i e ht
      split at hl
      · rename_i he
        split at hl
        · rename_i hc
          cases hl
          obtain ⟨a, n, c, bs, rfl, h1, h2, h3⟩ := trod_bytes ht he hc h
          exact ⟨⟨a, n, c, bs, rfl, h1, h2, h3⟩, trivial⟩
        · cases hl
      · rename_i he
        split at hl
        · rename_i hc
          cases hl
          obtain ⟨a, n, c, bs, rfl, h1, h2, h3⟩ := trod_bools ht he hc h
          exact ⟨⟨a, n, c, bs, rfl, h1, h2, h3⟩, trivial⟩
        · cases hl
      · cases hl
    · cases hl

/-- An argument that is a struct or an array. -/
theorem arg_agg {ls : List Leaf} (dp : Nat) (hls : leaves P dp t = some ls) (ha : ∃ cs, v = .agg cs) (h : DataW.Trod enc P W 0 (fun _ => true) true t v d ps) : ∃ cs, v = .agg cs ∧ Fits (heapOf W) ls cs.toList := by
  obtain ⟨cs, rfl⟩ := ha
  obtain ⟨fuel, h⟩ := h
  exact ⟨cs, rfl, trod_leaves dp fuel t ls _ _ hls h⟩
theorem agg_of_okWide_struct {fs : Array Field} (ht : P.underlying t = some (.struct fs)) (hv : Value.okWide P W .any base t v) : ∃ cs, v = .agg cs := by
  unfold Value.okWide at hv
  rw [ht] at hv
  exact ⟨_, hv.choose_spec.1⟩
/-- An argument that is a slice of truths. -/
theorem arg_bools (ht : P.underlying t = some (.slice e)) (he : P.underlying e = some .bool) (hs : P.cellsOf e = 1) (hv : Value.okWide P W .any base t v) (h : DataW.Trod enc P W 0 (fun _ => true) true t v d ps) :
    ∃ (a : Option Addr) (n c : Nat) (ks : List Bool), v = .slice a n c ∧ n ≤ c ∧ c ≤ maxLen ∧ BoA (heapOf W) a n ks := by
  obtain ⟨a, n, c, xs, m, el, rfl, hl, hm, hsl, hel, hx⟩ := arg_slice ht hs (by decide) hv h
  obtain ⟨ks, rfl⟩ := bools_of he (by simpa using hsl.len) hx hel
  exact ⟨a, n, c, ks, rfl, hl, hm, .inl hsl⟩
/-- An argument that is a slice of structs or of arrays. -/
theorem arg_rows {s : Nat} {ls : List Leaf} (dp : Nat) (hls : leaves P dp e = some ls) (ht : P.underlying t = some (.slice e)) (hs : P.cellsOf e = s) (hs0 : 0 < s) (hv : Value.okWide P W .any base t v) (h : DataW.Trod enc P W 0 (fun _ => true) true t v d ps) :
    ∃ (a : Option Addr) (n c : Nat) (xs : List Value), v = .slice a n c ∧ n ≤ c ∧ c ≤ maxLen ∧ SlA (heapOf W) a n s xs ∧ ∀ i, i < n → Fits (heapOf W) ls ((xs.drop (i * s)).take s) := by
  obtain ⟨a, n, c, xs, m, el, rfl, hl, hm, hsl, hel, hx⟩ := arg_slice ht hs hs0 hv h
  refine ⟨a, n, c, xs, rfl, hl, hm, hsl, fun i hi => ?_⟩
  have := hx i hi
  rw [List.getElem?_eq_getElem (by omega)] at this
  exact trod_leaves dp m e ls _ _ hls this
end

/-- Of a row of a slice: a part of it. -/
theorem part_of {xs cs : List Value} {m s j r : Nat} (h : (xs.drop m).take s = cs) (hj : j + r ≤ s) : (xs.drop (m + j)).take r = (cs.drop j).take r := by
  rw [← h, List.drop_take, List.take_take, List.drop_drop, Nat.min_eq_left (by omega)]
theorem SlA.part {H : Heap} {b o n s k j r : Nat} {xs cs : List Value} (h : SlA H (some ⟨b, o, none⟩) n s xs) (hk : k < n) (hc : (xs.drop (k * s)).take s = cs) (hj : j + r ≤ s) (hr : 0 < r) : rdNU (H b) (o + k * s + j) r = some ((cs.drop j).take r) := by
  have hks : k * s + s ≤ n * s := by rw [← Nat.succ_mul]; exact Nat.mul_le_mul_right _ hk
  have h1 := h.getN (k * s + j) r hr (by omega)
  rw [part_of hc hj, atN_lit, ← Nat.add_assoc] at h1
  exact h1
theorem SlA.part1 {H : Heap} {b o n s k j : Nat} {xs cs : List Value} (h : SlA H (some ⟨b, o, none⟩) n s xs) (hk : k < n) (hc : (xs.drop (k * s)).take s = cs) (hj : j < s) : rd1U (H b) (o + k * s + j) = cs[j]? := by
  have hks : k * s + s ≤ n * s := by rw [← Nat.succ_mul]; exact Nat.mul_le_mul_right _ hk
  have h1 := h.get (k * s + j) (by omega)
  rw [at1_lit, ← Nat.add_assoc] at h1
  rw [h1, ← hc, List.getElem?_take_of_lt hj, List.getElem?_drop]
theorem SlA.lit {H : Heap} {a : Option Addr} {n s : Nat} {xs : List Value} (h : SlA H a n s xs) (hn : 0 < n) : ∃ b o, a = some ⟨b, o, none⟩ := by
  have h1 := h.there hn
  have h2 := h.plain
  cases a with
  | none => cases h1
  | some a =>
    obtain ⟨b, o, sp⟩ := a
    cases sp with
    | none => exact ⟨b, o, rfl⟩
    | some x => simp [plainA] at h2
end Go.Proofs.YtfpighmafofoeaaDoor.GL
