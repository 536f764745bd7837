/- A small logic over the model: what the call knows of memory is a partial map of blocks (a heap); each plain operation is told as a function on values and such heaps. -/
import Derived.Below
import Derived.Tactics
import Derived.Deep.MidRow
import Derived.Deep.Upon
import Derived.Deep.Quiet
import Derived.KernelRfl
import Derived.WideLaws
namespace Go.Proofs.YtfpighmafofoeaaDoor.GL
set_option linter.unusedSimpArgs false
set_option linter.unusedVariables false
open Go Go.RowKit

/-! ### Heaps -/
inductive GObj where
  | row (own : Bool) (off : Nat) (vs : List Value) (room : Nat)
  | map (es : List (Value × Value))
  | iter (m since : Nat) (seen : List Nat) (last : Nat)
  | mapG (ck : Nat) (es : List (Nat × Value × Value))
  | obj (o : Obj)

abbrev Heap := Nat → Option GObj
def upd (H : Heap) (b : Nat) (o : GObj) : Heap := fun i => if i = b then some o else H i
/-- H' knows no more than H. -/
def Heap.le (H' H : Heap) : Prop := ∀ b o, H' b = some o → H b = some o

theorem Heap.le_refl (H : Heap) : Heap.le H H := fun _ _ h => h
theorem Heap.le_trans {A B C : Heap} (h : Heap.le A B) (k : Heap.le B C) : Heap.le A C := fun b o e => k b o (h b o e)
theorem upd_same (H : Heap) (b : Nat) (o : GObj) : upd H b o b = some o := by simp [upd]
theorem upd_ne (H : Heap) {b i : Nat} (o : GObj) (h : i ≠ b) : upd H b o i = H i := by simp [upd, h]
theorem le_upd {H : Heap} {b : Nat} (o : GObj) (h : H b = none) : Heap.le H (upd H b o) := fun i p e => by
  by_cases hi : i = b
  · subst hi; rw [h] at e; cases e
  · rw [upd_ne _ _ hi]; exact e
theorem upd_other {H : Heap} {b i : Nat} {o p : GObj} (hb : H b = none) (hi : H i = some p) : upd H b o i = some p := le_upd o hb i p hi
theorem upd_upd (H : Heap) (b : Nat) (o p : GObj) : upd (upd H b o) b p = upd H b p := by
  funext i; unfold upd; split <;> rfl
theorem ne_of_fresh {H : Heap} {b i : Nat} {p : GObj} (hb : H b = none) (hi : H i = some p) : i ≠ b := fun e => by subst e; rw [hb] at hi; cases hi

/-- Block b of world w is as the heap tells (B: the first block that is the call's own). -/
structure RowRep (B : Nat) (w : World) (b : Nat) (own : Bool) (off : Nat) (vs : List Value) (room : Nat) : Prop where
  lt : b < w.heap.size
  range : w.rangeAt b off vs
  mine : own = true → B ≤ b ∧ w.there b off (vs.length + room)

/-- A map that the call itself made (no entry is ever taken out: an entry's stamp is its place). -/
structure MapRep (B : Nat) (w : World) (b : Nat) (es : List (Value × Value)) : Prop where
  le : B ≤ b
  is : ∃ ents : Array MapEntry, w.heap[b]? = some (.map ents ents.size) ∧ ents.toList.map (fun e => (e.key, e.val)) = es ∧ ∀ (i : Nat) (e : MapEntry), ents[i]? = some e → e.born = i
/-- A map that the call itself made, whatever its entries' stamps. -/
structure MapGRep (B : Nat) (w : World) (b ck : Nat) (es : List (Nat × Value × Value)) : Prop where
  le : B ≤ b
  is : ∃ ents : Array MapEntry, w.heap[b]? = some (.map ents ck) ∧ ents.toList.map (fun e => (e.born, e.key, e.val)) = es
  lt : ∀ e ∈ es, e.1 < ck
  nd : (es.map (·.1)).Nodup
/-- A walk over a map. -/
structure IterRep (B : Nat) (w : World) (b m since : Nat) (seen : List Nat) (last : Nat) : Prop where
  le : B ≤ b
  is : w.heap[b]? = some (.mapIter (some m) since seen.toArray last)

def Rep (B : Nat) (w : World) (b : Nat) : GObj → Prop
  | .row own off vs room => RowRep B w b own off vs room
  | .map es => MapRep B w b es
  | .iter m since seen last => IterRep B w b m since seen last
  | .mapG ck es => MapGRep B w b ck es
  | .obj o => w.heap[b]? = some o

structure Sat (W0 w : World) (H : Heap) : Prop where
  below : Below W0.heap.size W0 w
  rep : ∀ b o, H b = some o → Rep W0.heap.size w b o

theorem Rep.lt {B : Nat} {w : World} {b : Nat} {o : GObj} (h : Rep B w b o) : b < w.heap.size := by
  cases o with
  | row own off vs room => exact RowRep.lt h
  | map es =>
    obtain ⟨_, ents, he, _⟩ := h
    rcases Nat.lt_or_ge b w.heap.size with hl | hl
    · exact hl
    · rw [Array.getElem?_eq_none hl] at he; cases he
  | mapG ck es =>
    obtain ⟨_, ⟨ents, he, _⟩, _, _⟩ := h
    rcases Nat.lt_or_ge b w.heap.size with hl | hl
    · exact hl
    · rw [Array.getElem?_eq_none hl] at he; cases he
  | iter m since seen last =>
    obtain ⟨_, he⟩ := h
    rcases Nat.lt_or_ge b w.heap.size with hl | hl
    · exact hl
    · rw [Array.getElem?_eq_none hl] at he; cases he
  | obj o =>
    have he : w.heap[b]? = some o := h
    rcases Nat.lt_or_ge b w.heap.size with hl | hl
    · exact hl
    · rw [Array.getElem?_eq_none hl] at he; cases he

theorem Sat.fresh {W0 w : World} {H : Heap} (h : Sat W0 w H) : H w.heap.size = none := by
  cases e : H w.heap.size with
  | none => rfl
  | some o => exact absurd (h.rep _ _ e).lt (Nat.lt_irrefl _)

theorem Sat.le {W0 w : World} {H H' : Heap} (h : Sat W0 w H) (hl : Heap.le H' H) : Sat W0 w H' := ⟨h.below, fun b o e => h.rep b o (hl b o e)⟩

theorem RowRep.of_cells {B : Nat} {w w' : World} {b : Nat} {own : Bool} {off : Nat} {vs : List Value} {room : Nat} (h : RowRep B w b own off vs room)
    (hs : w.heap.size ≤ w'.heap.size) (hc : w'.heap[b]? = w.heap[b]?) : RowRep B w' b own off vs room :=
  ⟨Nat.lt_of_lt_of_le h.lt hs, fun j v hv => by rw [World.cell?_of_block (w := w) (a := ⟨b, off + j, none⟩) hc]; exact h.range j v hv,
   fun ho => ⟨(h.mine ho).1, fun j hj => by
    have := (h.mine ho).2 j hj
    rw [World.cell?_of_block (w := w) (a := ⟨b, off + j, none⟩) hc, World.frozen?_of_block (w := w) (a := ⟨b, off + j, none⟩) hc]
    exact this⟩⟩

theorem Rep.of_block {B : Nat} {w w' : World} {b : Nat} {o : GObj} (h : Rep B w b o) (hs : w.heap.size ≤ w'.heap.size) (hc : w'.heap[b]? = w.heap[b]?) : Rep B w' b o := by
  cases o with
  | row own off vs room => exact RowRep.of_cells h hs hc
  | map es =>
    obtain ⟨hB, ents, he, hr⟩ := h
    exact ⟨hB, ents, by rw [hc]; exact he, hr⟩
  | mapG ck es =>
    obtain ⟨hB, ⟨ents, he, hr⟩, h1, h2⟩ := h
    exact ⟨hB, ⟨ents, by rw [hc]; exact he, hr⟩, h1, h2⟩
  | iter m since seen last =>
    obtain ⟨hB, he⟩ := h
    exact ⟨hB, by rw [hc]; exact he⟩
  | obj o =>
    have he : w.heap[b]? = some o := h
    show w'.heap[b]? = some o
    rw [hc]; exact he

/-- A draw turns nothing. -/
theorem Sat.drawn {W0 w : World} {H : Heap} (h : Sat W0 w H) (n : Nat) : Sat W0 { w with drawn := n } H :=
  ⟨⟨h.below.os, h.below.tape, h.below.output, h.below.size, h.below.block⟩, fun b o e => (h.rep b o e).of_block (Nat.le_refl _) rfl⟩

/-- A new block. -/
theorem Sat.new {W0 w : World} {H : Heap} (h : Sat W0 w H) (ob : Obj) (o : GObj) (hr : Rep W0.heap.size (w.alloc ob) w.heap.size o) :
    Sat W0 (w.alloc ob) (upd H w.heap.size o) :=
  ⟨h.below.alloc h.below.size ob, fun b p e => by
    by_cases hb : b = w.heap.size
    · subst hb; rw [upd_same] at e; cases e; exact hr
    · rw [upd_ne _ _ hb] at e
      have hp := h.rep b p e
      exact hp.of_block (by simp) (Below.heap_alloc _ _ _ hp.lt)⟩

theorem rowRep_new {B : Nat} {w : World} (hB : B ≤ w.heap.size) (c : Array Value) (t : TypeId) (vs : List Value) (room : Nat) (own : Bool) (hc : ∀ (j : Nat) (v : Value), vs[j]? = some v → c[j]? = some v) (hs : vs.length + room ≤ c.size) :
    RowRep B (w.alloc (.cells c t)) w.heap.size own 0 vs room :=
  ⟨by simp, fun j v hv => by rw [World.cell?_alloc_new]; simpa using hc j v hv, fun _ => ⟨hB, fun j hj => by
    refine ⟨?_, ?_⟩
    · rw [World.cell?_alloc_new]; simp; omega
    · simp⟩⟩

/-- A new row of cells. -/
theorem Sat.newRow {W0 w : World} {H : Heap} (h : Sat W0 w H) (c : Array Value) (t : TypeId) (vs : List Value) (room : Nat) (hc : ∀ (j : Nat) (v : Value), vs[j]? = some v → c[j]? = some v) (hs : vs.length + room ≤ c.size) :
    Sat W0 (w.alloc (.cells c t)) (upd H w.heap.size (.row true 0 vs room)) :=
  h.new _ _ (rowRep_new h.below.size c t vs room true hc hs)

theorem below_setCells {B : Nat} {a : World} (b : Nat) (hb : B ≤ b) : ∀ (vs : List Value) (o : Nat) (w : World), Below B a w → Below B a (w.setCells b o vs)
  | [], _, _, h => h
  | v :: r, o, w, h => by rw [World.setCells]; exact below_setCells b hb r (o + 1) _ (h.setCell hb v)

theorem size_setCells (b : Nat) : ∀ (vs : List Value) (o : Nat) (w : World), (w.setCells b o vs).heap.size = w.heap.size
  | [], _, _ => rfl
  | v :: r, o, w => by rw [World.setCells, size_setCells b r, World.size_setCell]

theorem heap_setCells_ne (b : Nat) {i : Nat} (hi : i ≠ b) : ∀ (vs : List Value) (o : Nat) (w : World), (w.setCells b o vs).heap[i]? = w.heap[i]?
  | [], _, _ => rfl
  | v :: r, o, w => by rw [World.setCells, heap_setCells_ne b hi r]; exact Below.heap_setCell _ _ _ _ hi

def splice (vs : List Value) (k : Nat) (xs : List Value) : List Value := vs.take k ++ xs ++ vs.drop (k + xs.length)

theorem splice_length (vs xs : List Value) (k : Nat) (h : k + xs.length ≤ vs.length) : (splice vs k xs).length = vs.length := by
  simp [splice]; omega

/-- A write into a row of the call's own; it may go on behind what is known. -/
theorem Sat.write {W0 w : World} {H : Heap} (h : Sat W0 w H) {b off room : Nat} {vs : List Value} (hb : H b = some (.row true off vs room)) (k : Nat) (xs : List Value)
    (hk : k ≤ vs.length) (hx : k + xs.length ≤ vs.length + room) :
    Sat W0 (w.setCells b (off + k) xs) (upd H b (.row true off (splice vs k xs) (vs.length + room - (splice vs k xs).length))) := by
  have hr : RowRep W0.heap.size w b true off vs room := h.rep b _ hb
  obtain ⟨hB, ht⟩ := hr.mine rfl
  refine ⟨below_setCells b hB _ _ _ h.below, fun i p e => ?_⟩
  by_cases hi : i = b
  · subst hi
    rw [upd_same] at e
    cases e
    have hlen : (splice vs k xs).length ≤ vs.length + room := by simp [splice]; omega
    refine ⟨by rw [size_setCells]; exact hr.lt, ?_, fun _ => ⟨hB, ?_⟩⟩
    · intro j v hv
      have hthere : w.there i (off + k) xs.length := fun j hj => by
        have := ht (k + j) (by omega)
        rwa [← Nat.add_assoc] at this
      unfold splice at hv
      by_cases h1 : j < k
      · rw [World.cell?_setCells_out i xs (off + k) w ⟨i, off + j, none⟩ (fun _ _ => .inl (by show off + j < off + k; omega))]
        rw [List.append_assoc, List.getElem?_append_left (by simp; omega), List.getElem?_take_of_lt h1] at hv
        exact hr.range j v hv
      · by_cases h2 : j < k + xs.length
        · have hs := World.rangeAt_setCells_same w i (off + k) xs hthere
          rw [List.append_assoc, List.getElem?_append_right (by simp; omega)] at hv
          simp only [List.length_take, Nat.min_eq_left hk] at hv
          rw [List.getElem?_append_left (by omega)] at hv
          have := hs (j - k) v hv
          rwa [show off + k + (j - k) = off + j by omega] at this
        · rw [World.cell?_setCells_out i xs (off + k) w ⟨i, off + j, none⟩ (fun _ _ => .inr (by show off + k + xs.length ≤ off + j; omega))]
          rw [List.append_assoc, List.getElem?_append_right (by simp; omega)] at hv
          simp only [List.length_take, Nat.min_eq_left hk] at hv
          rw [List.getElem?_append_right (by omega), List.getElem?_drop] at hv
          rw [show k + xs.length + (j - k - xs.length) = j by omega] at hv
          exact hr.range j v hv
    · rw [show (splice vs k xs).length + (vs.length + room - (splice vs k xs).length) = vs.length + room by omega]
      exact World.there_setCells ht i (off + k) xs
  · rw [upd_ne _ _ hi] at e
    exact (h.rep i p e).of_block (by rw [size_setCells]; exact Nat.le_refl _) (heap_setCells_ne b hi _ _ _)

/-- Another object in a block of the call's own. -/
theorem Sat.setObj {W0 w : World} {H : Heap} (h : Sat W0 w H) {b : Nat} (hB : W0.heap.size ≤ b) (hb : b < w.heap.size) (ob : Obj) (o : GObj) (hr : Rep W0.heap.size { w with heap := w.heap.setIfInBounds b ob } b o) :
    Sat W0 { w with heap := w.heap.setIfInBounds b ob } (upd H b o) := by
  refine ⟨⟨h.below.os, h.below.tape, h.below.output, by simpa using h.below.size, fun k hk => ?_⟩, fun i p e => ?_⟩
  · have hne : b ≠ k := by omega
    simp only [Array.getElem?_setIfInBounds, if_neg hne]
    exact h.below.block k hk
  · by_cases hi : i = b
    · subst hi; rw [upd_same] at e; cases e; exact hr
    · rw [upd_ne _ _ hi] at e
      refine (h.rep i p e).of_block (by simp) ?_
      simp only [Array.getElem?_setIfInBounds]
      rw [if_neg (fun e' => hi e'.symm)]

/-! ### Types -/
inductive Und where
  | bool | int (k : IntKind) | str | ptr (e : TypeId) | slice (e : TypeId) | arr (n : Nat) (e : TypeId) | struct | map (k e : TypeId) | func | other
  deriving DecidableEq

def und (P : Program) (t : TypeId) : Und :=
  match P.underlying t with
  | some .bool => .bool
  | some (.int k) => .int k
  | some .string => .str
  | some (.pointer e) => .ptr e
  | some (.slice e) => .slice e
  | some (.array n e) => .arr n e
  | some (.struct _) => .struct
  | some (.map k e) => .map k e
  | some (.func ..) => .func
  | _ => .other

section
variable {P : Program} {t : TypeId}
theorem und_bool (h : und P t = .bool) : P.underlying t = some .bool := by unfold und at h; split at h <;> simp_all
theorem und_int {k : IntKind} (h : und P t = .int k) : P.underlying t = some (.int k) := by unfold und at h; split at h <;> simp_all
theorem und_str (h : und P t = .str) : P.underlying t = some .string := by unfold und at h; split at h <;> simp_all
theorem und_ptr {e : TypeId} (h : und P t = .ptr e) : P.underlying t = some (.pointer e) := by unfold und at h; split at h <;> simp_all
theorem und_slice {e : TypeId} (h : und P t = .slice e) : P.underlying t = some (.slice e) := by unfold und at h; split at h <;> simp_all
theorem und_arr {n : Nat} {e : TypeId} (h : und P t = .arr n e) : P.underlying t = some (.array n e) := by unfold und at h; split at h <;> simp_all
theorem und_map {k e : TypeId} (h : und P t = .map k e) : P.underlying t = some (.map k e) := by unfold und at h; split at h <;> simp_all
theorem und_struct (h : und P t = .struct) : ∃ fs, P.underlying t = some (.struct fs) := by unfold und at h; split at h <;> simp_all
end

/-- Cells, bytes, by value or not, the cells of nought, all in one: what a walk asks of a type. -/
def isAg (P : Program) (t : TypeId) : Bool := match P.underlying t with | some (.struct _) | some (.array _ _) => true | _ => false
def sz (P : Program) (t : TypeId) : Option Nat := (P.info? t).map (·.size)
def nb (P : Program) (t : TypeId) : Option Nat := (P.info? t).map (·.bytes)
def zeroV (P : Program) (t : TypeId) : Option Value := (P.info? t).bind (·.zero)
/-- A field: its place, its cells, is it by value a row? -/
def fieldOf (P : Program) (s : TypeId) (f : Nat) : Option (Nat × Nat × Bool) :=
  match P.underlying s with
  | some (.struct fs) => (fs[f]?).bind fun x => (sz P x.type).map fun n => (x.offset, n, isAg P x.type)
  | _ => none

theorem run_isAgg {P : Program} {t : TypeId} {d : TypeDesc} (h : P.underlying t = some d) (w : World) : (isAgg t).run P w = .ok (isAg P t) w := by
  unfold isAgg isAg
  rw [Sem.run_bind, run_underlying h w, h]
  cases d <;> rfl

theorem run_sizeOf {P : Program} {t n : Nat} (h : sz P t = some n) (w : World) : (sizeOf t).run P w = .ok n w := by
  unfold sz at h
  cases e : P.info? t with
  | none => rw [e] at h; cases h
  | some i => rw [e] at h; simp at h; simp [sizeOf, typeInfo, e, h]

theorem run_zeroValue {P : Program} {t : Nat} {v : Value} (h : zeroV P t = some v) (w : World) : (zeroValue t).run P w = .ok v w := by
  unfold zeroV at h
  cases e : P.info? t with
  | none => rw [e] at h; cases h
  | some i => rw [e] at h; simp at h; simp [zeroValue, typeInfo, e, h]

theorem run_typeBytes {P : Program} {t n : Nat} (h : nb P t = some n) (w : World) : ∃ i, P.info? t = some i ∧ i.bytes = n ∧ (typeInfo t).run P w = .ok i w := by
  unfold nb at h
  cases e : P.info? t with
  | none => rw [e] at h; cases h
  | some i => rw [e] at h; simp at h; exact ⟨i, rfl, h, by simp [typeInfo, e]⟩

end Go.Proofs.YtfpighmafofoeaaDoor.GL
