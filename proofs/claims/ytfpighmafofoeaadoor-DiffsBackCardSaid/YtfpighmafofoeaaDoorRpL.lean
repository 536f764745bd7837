/- Layer 23: the library's strconv.Itoa, FormatInt, strings.Join, told of heaps; a strings.Builder of the call's own. -/
import Derived.Test.YtfpighmafofoeaaDoorRpM
import Derived.Test.YtfpighmafofoeaaDoorGlT
import Derived.Test.YtfpighmafofoeaaDoorGlR
import Derived.Test.YtfpighmafofoeaaDoorGlS
import Derived.Test.YtfpighmafofoeaaDoorGlK
namespace Go.Proofs.YtfpighmafofoeaaDoor.GL
open Go Go.RowKit Go.Shelf Go.Sort
set_option maxRecDepth 10000
set_option pp.deepTerms.threshold 8
set_option pp.maxSteps 3000
set_option linter.unusedSimpArgs false
set_option linter.unusedVariables false

def strV (l : List UInt8) : Value := .string (mkS l)
theorem mkS_app (x y : List UInt8) : mkS x ++ mkS y = mkS (x ++ y) := by
  apply ByteArray.ext
  simp [mkS]
theorem mkS_cut (x : List UInt8) (a b : Nat) : (mkS x).extract a b = mkS ((x.drop a).take (b - a)) := by
  apply ByteArray.ext
  simp [mkS, List.extract_eq_take_drop]
/-- What lies below a world's end stays. -/
theorem Sat.later {W0 w w' : World} {H : Heap} (hs : Sat W0 w H) (hB : Below w.heap.size w w') : Sat W0 w' H :=
  ⟨hs.below.trans (hB.mono hs.below.size), fun b o e => (hs.rep b o e).of_block hB.size (hB.block b (hs.rep b o e).lt)⟩
theorem Sat.grew {W0 w : World} {H : Heap} (h : Sat W0 w H) (os : Array Obj) : Sat W0 (grow w os) H := by
  have hk : ∀ k, k < w.heap.size → (grow w os).heap[k]? = w.heap[k]? := fun k hk => by
    show (w.heap ++ os)[k]? = _
    rw [Array.getElem?_append_left hk]
  exact ⟨⟨h.below.os, h.below.tape, h.below.output, by have := h.below.size; simp; omega, fun k hk' => (hk k (by have := h.below.size; omega)).trans (h.below.block k hk')⟩, fun b o e => (h.rep b o e).of_block (by simp) (hk b (h.rep b o e).lt)⟩
theorem itoaS_c (i : Nat) (hi : i < 100) (H : Heap) : ECalls Tryd.prog 39 #[.int .i64 i] H fun v H' => v = .string (mkS (Lib.decDigits i)) ∧ H' = H := by
  intro W0 w hs
  have hc := Any.strconv_Itoa_small { Tryd.itoaL with } i hi w
  change Calls Tryd.prog 39 _ _ _ at hc
  refine hc.mono ?_
  rintro e w' ⟨rfl, rfl⟩
  exact ⟨_, _, rfl, ⟨rfl, rfl⟩, hs⟩
theorem fmtS_c (i : Nat) (hi : i < 100) (H : Heap) : ECalls Tryd.prog 40 #[.int .i64 i, .int .i64 10] H fun v H' => v = .string (mkS (Lib.decDigits i)) ∧ H' = H := by
  intro W0 w hs
  have hc := Any.strconv_FormatInt_10_small { Tryd.fmtL with } i hi w
  change Calls Tryd.prog 40 _ _ _ at hc
  refine hc.mono ?_
  rintro e w' ⟨rfl, rfl⟩
  exact ⟨_, _, rfl, ⟨rfl, rfl⟩, hs⟩
/-- The library's table of powers of ten reads as its text lays it. -/
def TabH (H : Heap) : Prop := ∃ ob, H 0 = some (.obj ob) ∧ ∀ w : World, w.heap[0]? = some ob → Lib.TabIs Tryd.prog w "internal/strconv.uint64pow10" .u64 Lib.pow10Tab
theorem TabH.le {H H' : Heap} (h : TabH H) (hl : Heap.le H H') : TabH H' := by
  obtain ⟨ob, h1, h2⟩ := h
  exact ⟨ob, hl _ _ h1, h2⟩
theorem fmt_c (n : Int) (h0 : -9223372036854775808 ≤ n) (h1 : n ≤ 9223372036854775807) (H : Heap) (ht : TabH H) : ECalls Tryd.prog 40 #[.int .i64 n, .int .i64 10] H fun v H' => v = .string (mkS (Lib.itoa n)) ∧ H' = H := by
  intro W0 w hs
  have hc := Any.strconv_FormatInt_10 Tryd.fmtL n h0 h1 w (by obtain ⟨ob, h1, h2⟩ := ht; exact h2 w (hs.rep _ _ h1))
  change Calls Tryd.prog 40 _ _ _ at hc
  refine hc.mono ?_
  rintro e w' ⟨rfl, k, os, rfl⟩
  exact ⟨_, _, rfl, ⟨rfl, rfl⟩, (hs.drawn (w.drawn + k)).grew os⟩
theorem Tryd.joinX : Builder.Extra Tryd.prog Tryd.joinL_ren := {
  sizeBuilder := by kernel_rfl
  liesBuilder := by kernel_rfl
  t5 := Tryd.underlying5
  a5 := Tryd.isAgg5
  z5 := Tryd.sizeOf5
  v5 := Tryd.zeroValue5
  infoByte := by kernel_rfl
  cellsByte := by kernel_rfl
  sizeByte := by kernel_rfl
  neB5 := by decide }
theorem Tryd.strX : Builder.Extra Tryd.prog Tryd.strL_ren := {
  sizeBuilder := by kernel_rfl
  liesBuilder := by kernel_rfl
  t5 := Tryd.underlying5
  a5 := Tryd.isAgg5
  z5 := Tryd.sizeOf5
  v5 := Tryd.zeroValue5
  infoByte := by kernel_rfl
  cellsByte := by kernel_rfl
  sizeByte := by kernel_rfl
  neB5 := by decide }
theorem join_c {H : Heap} {b c room : Nat} {own : Bool} {xs : List (List UInt8)} {tail : List Value} (sep : List UInt8) (hr : H b = some (.row own 0 (xs.map strV ++ tail) room)) (hn : xs.length ≤ 1000) (hc : xs.length ≤ c) (hlen : (Lib.join xs sep).length ≤ 1000000) :
    ECalls Tryd.prog 38 #[.slice (some ⟨b, 0, none⟩) xs.length c, .string (mkS sep)] H fun v H' => v = .string (mkS (Lib.join xs sep)) ∧ H' = H := by
  intro W0 w hs
  have hrr : RowRep W0.heap.size w b own 0 (xs.map strV ++ tail) room := hs.rep b _ hr
  have e1 : (xs.map mkS).map (·.data.toList) = xs := by
    rw [List.map_map]
    conv => rhs; rw [← List.map_id xs]
    exact List.map_congr_left fun l _ => mkS_list l
  have hcon := Any.strings_Join Tryd.joinL Tryd.joinX b 0 c (xs.map mkS) (mkS sep) w (fun j x hx => by
    rw [List.getElem?_map] at hx
    obtain ⟨l, hl, rfl⟩ := Option.map_eq_some_iff.1 hx
    refine hrr.range j _ ?_
    rw [List.getElem?_append_left (by rw [List.length_map]; exact (List.getElem?_eq_some_iff.1 hl).1), List.getElem?_map, hl]
    rfl) hrr.lt (by rw [List.length_map]; omega) (by rw [List.length_map]; exact hc) (by rw [e1, mkS_list]; omega)
  rw [List.length_map, e1, mkS_list] at hcon
  change Calls Tryd.prog 38 _ _ _ at hcon
  refine hcon.mono ?_
  rintro e w' ⟨rfl, hB⟩
  exact ⟨_, _, rfl, ⟨rfl, rfl⟩, hs.later hB⟩
/-- A builder of the call's own. -/
def Bld (B b : Nat) (l : List UInt8) (w : World) : Prop := Lib.IsBuilder 65 5 B b (Lib.byteCells l) w
theorem wstr_k (B b : Nat) (l s : List UInt8) (w : World) (h : Bld B b l w) (hlen : l.length + s.length ≤ 1000000) (hBw : B ≤ w.heap.size) :
    Calls Tryd.prog 22 #[.pointer (some ⟨b, 0, none⟩), .string (mkS s)] w fun e w' => e = .returned (.tuple #[.int .i64 s.length, .nilIface]) ∧ Bld B b (l ++ s) w' ∧ Below B w w' := by
  have hc := Any.Builder_WriteString { Tryd.joinL with } Tryd.joinX B b (Lib.byteCells l) (mkS s) w h (by rw [Lib.byteCells_length, mkS_size]; omega) hBw
  change Calls Tryd.prog 22 _ _ _ at hc
  refine hc.mono ?_
  rintro e w' ⟨rfl, h1, hB⟩
  rw [mkS_size]
  rw [Lib.strCells_eq, mkS_list, ← Lib.byteCells_append] at h1
  exact ⟨rfl, Or.inr h1, hB⟩
theorem str_k (B b : Nat) (l : List UInt8) (w : World) (h : Bld B b l w) (hBw : B ≤ w.heap.size) :
    Calls Tryd.prog 24 #[.pointer (some ⟨b, 0, none⟩)] w fun e w' => e = .returned (.string (mkS l)) ∧ Below B w w' := by
  have hc := Any.Builder_String_any Tryd.strL Tryd.strX B b l w h hBw
  change Calls Tryd.prog 24 _ _ _ at hc
  refine hc.mono ?_
  rintro e w' ⟨rfl, hB⟩
  exact ⟨rfl, hB⟩
/-- A builder's blocks: whoever keeps them, keeps the builder. -/
theorem bld_keep {B b : Nat} {l : List UInt8} {w : World} (h : Bld B b l w) : ∃ F : Heap, (∀ k o, F k = some o → ∃ ob, o = .obj ob ∧ B ≤ k ∧ w.heap[k]? = some ob) ∧ ∀ w', (∀ k ob, F k = some (.obj ob) → w'.heap[k]? = some ob) → Bld B b l w' := by
  have key : ∀ p, Lib.BuilderAt 65 5 B b p (Lib.byteCells l) w → ∃ F : Heap, (∀ k o, F k = some o → ∃ ob, o = .obj ob ∧ B ≤ k ∧ w.heap[k]? = some ob) ∧ ∀ w', (∀ k ob, F k = some (.obj ob) → w'.heap[k]? = some ob) → Lib.BuilderAt 65 5 B b p (Lib.byteCells l) w' := by
    rintro p ⟨hB, v, hb, ⟨hl, hv⟩, hne⟩
    rcases hv with ⟨rfl, h0⟩ | ⟨g, cap, cur, rfl, hg, hgb, h1, h2, h3, h4⟩
    · refine ⟨fun k => if k = b then some (.obj (.cells #[p, .slice none 0 0] 65 (0, 0))) else none, fun k o hk => ?_, fun w' hw => ⟨hB, _, hw b _ (by simp), ⟨hl, .inl ⟨rfl, h0⟩⟩, hne⟩⟩
      by_cases hkb : k = b
      · subst hkb
        simp only [if_true, Option.some.injEq] at hk
        exact ⟨_, hk.symm, hB, hb⟩
      · simp [hkb] at hk
    · have hgb' : g ≠ b := fun e => hne (by simp [Value.ownBlock, e])
      refine ⟨fun k => if k = b then some (.obj (.cells #[p, .slice (some ⟨g, 0, none⟩) (Lib.byteCells l).length cap] 65 (0, 0))) else if k = g then some (.obj (.cells cur 5 (0, 0))) else none, fun k o hk => ?_, fun w' hw => ⟨hB, _, hw b _ (by simp), ⟨hl, .inr ⟨g, cap, cur, rfl, hg, hw g _ (by simp [hgb']), h1, h2, h3, h4⟩⟩, hne⟩⟩
      by_cases hkb : k = b
      · subst hkb
        simp only [if_true, Option.some.injEq] at hk
        exact ⟨_, hk.symm, hB, hb⟩
      · by_cases hkg : k = g
        · subst hkg
          simp only [hkb, if_false, if_true, Option.some.injEq] at hk
          exact ⟨_, hk.symm, hg, hgb⟩
        · simp [hkb, hkg] at hk
  rcases h with h | h
  · obtain ⟨F, h1, h2⟩ := key _ h
    exact ⟨F, h1, fun w' hw => Or.inl (h2 w' hw)⟩
  · obtain ⟨F, h1, h2⟩ := key _ h
    exact ⟨F, h1, fun w' hw => Or.inr (h2 w' hw)⟩
/-- A contract, where the call has a builder besides. -/
theorem ECalls.beside {f : FuncId} {args : Array Value} {H : Heap} {K : Kont} {B b : Nat} {l : List UInt8} {W0 w : World} (hs : Sat W0 w H) (hb : Bld B b l w) (hH : ∀ k, B ≤ k → H k = none)
    (hc : ∀ G, Heap.le H G → ECalls Tryd.prog f args G fun v H' => K v H' ∧ Heap.le G H') :
    Calls Tryd.prog f args w fun e w' => ∃ v H', e = .returned v ∧ K v H' ∧ Sat W0 w' H ∧ Bld B b l w' := by
  obtain ⟨F, h1, h2⟩ := bld_keep hb
  have hle : Heap.le H (fun k => (F k).or (H k)) := fun k o hk => by
    cases hF : F k with
    | none => simp only [hF, Option.none_or]; exact hk
    | some x =>
      obtain ⟨_, _, hk2, _⟩ := h1 k x hF
      rw [hH k hk2] at hk; cases hk
  have hsG : Sat W0 w (fun k => (F k).or (H k)) := ⟨hs.below, fun k o hk => by
    cases hF : F k with
    | none => simp only [hF, Option.none_or] at hk; exact hs.rep k o hk
    | some x =>
      obtain ⟨ob, rfl, hk2, hw⟩ := h1 k x hF
      simp only [hF, Option.some_or, Option.some.injEq] at hk
      subst hk
      exact hw⟩
  refine (hc _ hle W0 w hsG).mono ?_
  rintro e w' ⟨v, H', rfl, ⟨hK, hl⟩, hs'⟩
  refine ⟨v, H', rfl, hK, hs'.le (Heap.le_trans hle hl), h2 w' fun k ob hF => ?_⟩
  have := hs'.rep k (.obj ob) (hl _ _ (by simp [hF]))
  exact this
end Go.Proofs.YtfpighmafofoeaaDoor.GL
