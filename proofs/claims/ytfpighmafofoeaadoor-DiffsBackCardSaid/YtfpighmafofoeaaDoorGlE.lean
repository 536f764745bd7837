/- The operations that make or write memory, and calls; each told by what is known of memory behind it; and that the model's own operation does just that. -/
import Derived.Test.YtfpighmafofoeaaDoorGlD
import Derived.Laws.AppendOwn
import Derived.Laws.MakeOwn
import Derived.Lib.AppendStr
namespace Go.Proofs.YtfpighmafofoeaaDoor.GL
set_option linter.unusedSimpArgs false
set_option linter.unusedVariables false
open Go Go.RowKit

abbrev Kont := Value → Heap → Prop

def dele (H : Heap) (b : Nat) : Heap := fun i => if i = b then none else H i
theorem dele_same (H : Heap) (b : Nat) : dele H b b = none := by simp [dele]
theorem dele_ne (H : Heap) {b i : Nat} (h : i ≠ b) : dele H b i = H i := by simp [dele, h]
theorem dele_le (H : Heap) (b : Nat) : Heap.le (dele H b) H := fun i o e => by
  unfold dele at e
  split at e
  · cases e
  · exact e
theorem upd_dele (H : Heap) (b : Nat) (o : GObj) : upd (dele H b) b o = upd H b o := by
  funext i; unfold upd dele; split <;> rfl

/-- A call's contract: whatever the world that fits the heap, the call comes back, with a value and a heap of which K holds. -/
def ECalls (P : Program) (f : FuncId) (args : Array Value) (H : Heap) (K : Kont) : Prop :=
  ∀ W0 w, Sat W0 w H → Calls P f args w fun e w' => ∃ v H', e = .returned v ∧ K v H' ∧ Sat W0 w' H'

theorem ECalls.mono {P : Program} {f : FuncId} {args : Array Value} {H : Heap} {K K' : Kont} (h : ECalls P f args H K) (hk : ∀ v H', K v H' → K' v H') : ECalls P f args H K' :=
  fun W0 w hs => (h W0 w hs).mono fun _ _ ⟨v, H', he, hK, hs'⟩ => ⟨v, H', he, hk _ _ hK, hs'⟩

/-- Whoever knows more may call, too; what else was known is not said any more. -/
theorem ECalls.le {P : Program} {f : FuncId} {args : Array Value} {H H1 : Heap} {K : Kont} (h : ECalls P f args H1 K) (hl : Heap.le H1 H) : ECalls P f args H K :=
  fun W0 w hs => h W0 w (hs.le hl)

/-- What an operation may come to. -/
def StepOk (P : Program) (W0 : World) (K : Kont) : Result Next → Prop
  | .ok (.value v) w => ∃ H, K v H ∧ Sat W0 w H
  | .ok .skip w => ∃ H, K undef H ∧ Sat W0 w H
  | .ok (.enter f args) w => Calls P f args w fun e w' => ∃ v H, e = .returned v ∧ K v H ∧ Sat W0 w' H
  | _ => False

/-! ### New blocks -/
def eNew (cs : List Value) (H : Heap) (K : Kont) : Prop := ∀ b, H b = none → K (.pointer (some ⟨b, 0, none⟩)) (upd H b (.row true 0 cs 0))

theorem eNew_ok {P : Program} {W0 w : World} {H : Heap} {K : Kont} (t : TypeId) (v : Value) (h : Sat W0 w H) (he : eNew (cellsV v) H K) :
    StepOk P W0 K ((do pure (Next.value (.pointer (some (← newVar t v)))) : Sem Next).run P w) := by
  have hn := h.newRow v.cells t (cellsV v) 0 (fun j u hu => by rw [← cells_toList] at hu; simpa using hu) (by rw [← cells_toList]; simp)
  have hk := he w.heap.size h.fresh
  simp only [newVar, newRow, Sem.run_bind, run_newObj, Result.andThen_ok, Sem.run_pure, StepOk, World.alloc_eq]
  exact ⟨_, hk, hn⟩

def zeros (z : List Value) (n : Nat) : List Value := (List.replicate n z).flatten
theorem zeros_one (v : Value) (n : Nat) : zeros [v] n = List.replicate n v := by
  unfold zeros
  induction n with
  | zero => rfl
  | succ n ih => simp [List.replicate_succ, ih]
theorem zeros_length (z : List Value) (n : Nat) : (zeros z n).length = n * z.length := by simp [zeros]

theorem zeros_getElem? (z : List Value) (n j : Nat) (hj : j < n * z.length) : (zeros z n)[j]? = z[j % z.length]? := by
  induction n generalizing j with
  | zero => simp at hj
  | succ n ih =>
    have hz : 0 < z.length := by
      rcases Nat.eq_zero_or_pos z.length with h | h
      · rw [h] at hj; simp at hj
      · exact h
    unfold zeros
    rw [List.replicate_succ, List.flatten_cons]
    by_cases h : j < z.length
    · rw [List.getElem?_append_left h, Nat.mod_eq_of_lt h]
    · rw [List.getElem?_append_right (by omega)]
      have := ih (j - z.length) (by rw [Nat.succ_mul] at hj; omega)
      unfold zeros at this
      rw [this, ← Nat.mod_eq_sub_mod (by omega)]

theorem madeCells_getElem? (z : Array Value) (n j : Nat) (hz : 0 < z.size) (hj : j < n * z.size) : (madeCells z (n * z.size))[j]? = (zeros z.toList n)[j]? := by
  rw [zeros_getElem? z.toList n j (by simpa using hj)]
  unfold madeCells
  have hm : j % z.size < z.size := Nat.mod_lt _ hz
  simp [hj, hm]

def eMake (P : Program) (t : TypeId) (l c : Value) (H : Heap) (K : Kont) : Prop :=
  match und P t, l, c with
  | .slice e, .int _ l, .int _ c => match zeroV P e, sz P e, nb P e with
    | some z, some s, some n => (0 ≤ l ∧ l ≤ c ∧ (n : Int) * c ≤ 281474976710656 ∧ c ≤ 281474976710656 ∧ (cellsV z).length = s ∧ 0 < s) ∧
        ∀ b, H b = none → K (.slice (some ⟨b, 0, none⟩) l.toNat c.toNat) (upd H b (.row true 0 (zeros (cellsV z) l.toNat) ((c.toNat - l.toNat) * s)))
    | _, _, _ => False
  | _, _, _ => False

theorem eMake_ok {P : Program} {W0 w : World} {H : Heap} {K : Kont} {t : TypeId} {l c : Value} (h : Sat W0 w H) (he : eMake P t l c H K) :
    StepOk P W0 K ((do pure (Next.value (← Instr.makeSlice t l c)) : Sem Next).run P w) := by
  unfold eMake at he
  split at he
  case h_2 => exact he.elim
  rename_i e kl l kc c hu
  split at he
  case h_2 => exact he.elim
  rename_i z s n hz hs hn
  obtain ⟨⟨h0, h1, h2, h3, h4, h5⟩, hk⟩ := he
  obtain ⟨i, hi, hb, _⟩ := run_typeBytes hn w
  have hzi : i.zero = some z := by unfold zeroV at hz; rw [hi] at hz; exact hz
  have hsi : i.size = s := by unfold sz at hs; rw [hi] at hs; simpa using hs
  have hr := run_make (P := P) w t e i z (und_slice hu) hi hzi kl kc l c h0 h1 (by rw [hb]; exact h2) (by omega)
  simp only [Sem.run_bind, hr, Result.andThen_ok, Sem.run_pure, StepOk]
  refine ⟨_, hk w.heap.size h.fresh, ?_⟩
  have hzs : z.cells.size = s := by rw [← h4, ← cells_toList]; simp
  refine h.newRow _ e _ _ (fun j v hv => ?_) ?_
  · have hj : j < (zeros (cellsV z) l.toNat).length := (List.getElem?_eq_some_iff.1 hv).1
    rw [zeros_length, h4] at hj
    have hlc : l.toNat * s ≤ c.toNat * s := Nat.mul_le_mul_right s (by omega)
    rw [hsi, ← hzs, madeCells_getElem? z.cells c.toNat j (by omega) (by rw [hzs]; omega), cells_toList]
    rw [zeros_getElem? _ _ _ (by rw [h4]; omega)] at hv
    rw [zeros_getElem? _ _ _ (by rw [h4]; omega)]
    exact hv
  · rw [size_madeCells, zeros_length, h4, hsi, ← Nat.add_mul]
    exact Nat.mul_le_mul_right s (by omega)

def eBuildSlice (P : Program) (t : TypeId) (len : Nat) (ps : List (Nat × Value)) (H : Heap) (K : Kont) : Prop :=
  match und P t with
  | .slice e => match zeroV P e, sz P e with
    | some z, some s => (len * s ≤ 16777216 ∧ (cellsV z).length = s ∧ 0 < s) ∧ match buildF (fun i => some (i * s, s)) ps (zeros (cellsV z) len) with
      | some cs => ∀ b, H b = none → K (.slice (some ⟨b, 0, none⟩) len len) (upd H b (.row true 0 cs 0))
      | none => False
    | _, _ => False
  | _ => False

theorem eBuildSlice_ok {P : Program} {W0 w : World} {H : Heap} {K : Kont} {t : TypeId} {len : Nat} {ps : Array (Nat × Value)} (h : Sat W0 w H) (he : eBuildSlice P t len ps.toList H K) :
    StepOk P W0 K ((do pure (Next.value (← Instr.buildSlice t len ps)) : Sem Next).run P w) := by
  unfold eBuildSlice at he
  split at he
  case h_2 => exact he.elim
  rename_i e hu
  split at he
  case h_2 => exact he.elim
  rename_i z s hz hs
  obtain ⟨⟨h1, h2, h3⟩, he⟩ := he
  split at he
  case h_2 => exact he.elim
  rename_i cs hcs
  have hzs : z.cells.size = s := by rw [← h2, ← cells_toList]; simp
  have hrow : ((Array.range (len * s)).map (z.cells[· % z.cells.size]!)) = (zeros (cellsV z) len).toArray := by
    apply Array.ext_getElem?
    intro j
    by_cases hj : j < len * s
    · have := madeCells_getElem? z.cells len j (by omega) (by rw [hzs]; exact hj)
      rw [hzs] at this
      unfold madeCells at this
      rw [hzs] at this
      rw [hzs, this, cells_toList]
      simp
    · rw [Array.getElem?_eq_none (by simp; omega), Array.getElem?_eq_none (by simp [zeros_length, h2]; omega)]
  have hfill := fill_buildF _ _ _ _ hcs
  rw [← hrow] at hfill
  have hn : ¬ (len * s > 16777216) := by omega
  have hrun : (Instr.buildSlice t len ps).run P w = .ok (.slice (some ⟨w.heap.size, 0, none⟩) len len) (w.alloc (.cells cs.toArray e)) := by
    by_cases h0 : len * s = 0
    · have hl : len = 0 := by
        rcases Nat.mul_eq_zero.1 h0 with h | h
        · exact h
        · omega
      subst hl
      rw [hrow] at hfill
      simp only [zeros, List.replicate_zero, List.flatten_nil] at hfill
      simp [Instr.buildSlice, run_underlying (und_slice hu), run_sizeOf hs, newRow, Array.range_zero', hfill]
    · simp [Instr.buildSlice, run_underlying (und_slice hu), run_sizeOf hs, run_zeroValue hz, hn, h0, hfill, newRow]
  simp only [Sem.run_bind, hrun, Result.andThen_ok, Sem.run_pure, StepOk]
  exact ⟨_, he w.heap.size h.fresh, h.newRow _ e cs 0 (fun j v hv => by simpa using hv) (by simp)⟩

def u8V (c : UInt8) : Value := .int .u8 (c.toNat : Int)

def eStrBytes (s : ByteArray) (H : Heap) (K : Kont) : Prop :=
  ∀ b room, H b = none → K (.slice (some ⟨b, 0, none⟩) s.size (s.size + room)) (upd H b (.row true 0 (s.data.toList.map u8V) room))

theorem eStrBytes_ok {P : Program} {W0 w : World} {H : Heap} {K : Kont} {src dst e : TypeId} {s : ByteArray} (h : Sat W0 w H) (hs : und P src = .str) (hd : und P dst = .slice e) (hu : und P e = .int .u8) (he : eStrBytes s H K) :
    StepOk P W0 K ((do pure (Next.value (← convert src dst (.string s))) : Sem Next).run P w) := by
  have hr := run_bytes_of_string (P := P) w src dst e s (und_str hs) (und_slice hd) (und_int hu)
  have hge := grownCap_ge w s.size 0 e
  have hk := he w.heap.size (grownCap w s.size 0 e - s.size) h.fresh
  rw [show s.size + (grownCap w s.size 0 e - s.size) = grownCap w s.size 0 e by omega] at hk
  simp only [Sem.run_bind, hr, Result.andThen_ok, Sem.run_pure, StepOk]
  refine ⟨_, hk, ?_⟩
  have hsz : (bytesRow s (grownCap w s.size 0 e)).size = grownCap w s.size 0 e := by
    have hd : s.data.size = s.size := rfl
    simp [bytesRow, hd]; omega
  refine (h.drawn (w.drawn + 1)).new (W0 := W0) (w := w.drew) _ _ ⟨by simp, fun j v hv => ?_, fun _ => ⟨h.below.size, fun j hj => ?_⟩⟩
  · have hj : j < s.data.size := by have := (List.getElem?_eq_some_iff.1 hv).1; simpa using this
    have := World.cell?_alloc_mark w.drew (bytesRow s (grownCap w s.size 0 e)) e ((bytesRow s (grownCap w s.size 0 e)).size, (bytesRow s (grownCap w s.size 0 e)).size + 1) j
    simp only [Nat.zero_add]
    refine this.trans ?_
    rw [bytesRow_at s _ j hj, ← hv, List.getElem?_map, Array.getElem?_toList, Array.getElem?_eq_getElem hj]
    rfl
  · simp only [List.length_map, Nat.zero_add] at hj ⊢
    have hd : s.data.toList.length = s.size := by simp
    rw [hd] at hj
    have h1 := World.cell?_alloc_mark w.drew (bytesRow s (grownCap w s.size 0 e)) e ((bytesRow s (grownCap w s.size 0 e)).size, (bytesRow s (grownCap w s.size 0 e)).size + 1) j
    have h2 := World.frozen?_alloc_mark w.drew (bytesRow s (grownCap w s.size 0 e)) e (bytesRow s (grownCap w s.size 0 e)).size ((bytesRow s (grownCap w s.size 0 e)).size + 1) j
    refine ⟨?_, h2.trans ?_⟩
    · refine (congrArg Option.isSome h1).trans ?_
      rw [Array.getElem?_eq_getElem (by omega)]; rfl
    · rw [hsz]; simp; omega

/-! ### Stores -/
def eStore (P : Program) (t : TypeId) (p v : Value) (H : Heap) (K : Kont) : Prop :=
  match p with
  | .pointer (some ⟨b, o, none⟩) => match sz P t, H b with
    | some n, some (.row true off vs room) => ((cellsV v).length = n ∧ (cellsV v).all (·.oneCell') = true ∧ off ≤ o ∧ o - off + n ≤ vs.length) ∧
        K undef (upd H b (.row true off (splice vs (o - off) (cellsV v)) room))
    | _, _ => False
  | _ => False

theorem eStore_ok {P : Program} {W0 w : World} {H : Heap} {K : Kont} {t : TypeId} {p v : Value} (h : Sat W0 w H) (he : eStore P t p v H K) :
    StepOk P W0 K ((do Instr.storeAt t p v; pure Next.skip : Sem Next).run P w) := by
  unfold eStore at he
  split at he
  case h_2 => exact he.elim
  rename_i b o
  split at he
  case h_2 => exact he.elim
  rename_i n off vs room hs hb
  obtain ⟨⟨h1, h2, h3, h4⟩, hk⟩ := he
  have hr : RowRep W0.heap.size w b true off vs room := h.rep b _ hb
  obtain ⟨hB, ht⟩ := hr.mine rfl
  have hst := run_storeCells_cells (P := P) b o (cellsV v) 0 w
    (fun j hj => by
      have := (ht (o - off + j) (by omega)).1
      rwa [show off + (o - off + j) = o + 0 + j by omega] at this)
    (fun j hj => by
      have := (ht (o - off + j) (by omega)).2
      rwa [show off + (o - off + j) = o + 0 + j by omega] at this)
    (fun u hu => (List.all_eq_true.1 h2) u hu)
  have hcs : v.cells.size = n := by rw [← h1, ← cells_toList]; simp
  have hrun : (Instr.storeAt t (.pointer (some ⟨b, o, none⟩)) v).run P w = .ok () (w.setCells b o (cellsV v)) := by
    simp only [Instr.storeAt, Instr.sureAddr, storeVar, Sem.run_bind, Sem.run_pure, Result.andThen_ok, run_sizeOf hs, hcs, ne_eq, not_true, if_false, cells_toList]
    simpa using hst
  have hw := h.write hb (o - off) (cellsV v) (by omega) (by omega)
  rw [show off + (o - off) = o by omega] at hw
  rw [show vs.length + room - (splice vs (o - off) (cellsV v)).length = room by rw [splice_length _ _ _ (by omega)]; omega] at hw
  simp only [Sem.run_bind, hrun, Result.andThen_ok, Sem.run_pure, StepOk]
  exact ⟨_, hk, hw⟩

end Go.Proofs.YtfpighmafofoeaaDoor.GL
