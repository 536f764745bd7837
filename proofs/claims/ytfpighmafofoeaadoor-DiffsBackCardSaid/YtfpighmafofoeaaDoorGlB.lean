/- The operations that only compute or read: each a function of values and of what is known of memory; and that the model's own operation yields just that. -/
import Derived.Test.YtfpighmafofoeaaDoorGlA
import Derived.Laws.IdiomStrings
import Derived.Laws.BytesArg
namespace Go.Proofs.YtfpighmafofoeaaDoor.GL
set_option linter.unusedSimpArgs false
set_option linter.unusedVariables false
open Go Go.RowKit

/-! ### Reading -/
def rd1 (H : Heap) (b o : Nat) : Option Value :=
  match H b with
  | some (.row _ off vs _) => if off ≤ o then vs[o - off]? else none
  | _ => none

def rdN (H : Heap) (b o n : Nat) : Option (List Value) :=
  if n = 0 then some [] else
  match H b with
  | some (.row _ off vs _) => if off ≤ o ∧ o - off + n ≤ vs.length then some ((vs.drop (o - off)).take n) else none
  | _ => none

/-- The cell k places behind an address. -/
def at1 (H : Heap) (a : Option Addr) (k : Nat) : Option Value :=
  match a with
  | some ⟨b, o, none⟩ => rd1 H b (o + k)
  | _ => none

def atN (H : Heap) (a : Option Addr) (k n : Nat) : Option (List Value) :=
  match a with
  | some ⟨b, o, none⟩ => rdN H b (o + k) n
  | _ => none

theorem rd1_cell {W0 w : World} {H : Heap} (h : Sat W0 w H) {b o : Nat} {v : Value} (hr : rd1 H b o = some v) : w.cell? ⟨b, o, none⟩ = some v := by
  unfold rd1 at hr
  split at hr
  · rename_i own off vs room he
    split at hr
    · rename_i ho
      have := RowRep.range (h.rep b _ he) (o - off) v hr
      rwa [show off + (o - off) = o by omega] at this
    · cases hr
  · cases hr

theorem rdN_range {W0 w : World} {H : Heap} (h : Sat W0 w H) {b o n : Nat} {xs : List Value} (hr : rdN H b o n = some xs) : w.rangeAt b o xs ∧ xs.length = n := by
  unfold rdN at hr
  split at hr
  · rename_i h0
    subst h0
    cases hr
    exact ⟨fun j v hv => by simp at hv, rfl⟩
  split at hr
  · rename_i own off vs room he
    split at hr
    · rename_i ho
      cases hr
      refine ⟨fun j v hv => ?_, by simp; omega⟩
      rw [List.getElem?_take] at hv
      split at hv
      · rw [List.getElem?_drop] at hv
        have := RowRep.range (h.rep b _ he) (o - off + j) v hv
        rwa [show off + (o - off + j) = o + j by omega] at this
      · cases hv
    · cases hr
  · cases hr

/-- Is a type's value a row of cells, and of how many? -/
def tk (P : Program) (t : TypeId) : Option (Bool × Nat) :=
  match P.underlying t with
  | some _ => (sz P t).map fun n => (isAg P t, n)
  | none => none

theorem tk_spec {P : Program} {t : TypeId} {b : Bool} {n : Nat} (h : tk P t = some (b, n)) : ∃ d, P.underlying t = some d ∧ sz P t = some n ∧ isAg P t = b := by
  unfold tk at h
  split at h
  · rename_i d hd
    cases hs : sz P t with
    | none => rw [hs] at h; cases h
    | some m => rw [hs] at h; simp at h; exact ⟨d, hd, by rw [h.2], h.1⟩
  · cases h

def qLoad (P : Program) (t : TypeId) (p : Value) (H : Heap) : Option Value :=
  match p with
  | .pointer a => match tk P t with
    | some (true, n) => (atN H a 0 n).map fun xs => .agg xs.toArray
    | some (false, _) => at1 H a 0
    | none => none
  | _ => none

theorem qLoad_ok {P : Program} {t : TypeId} {p v : Value} {W0 w : World} {H : Heap} (h : Sat W0 w H) (hq : qLoad P t p H = some v) : (Instr.loadAt t p).run P w = .ok v w := by
  unfold qLoad at hq
  split at hq
  case h_2 => cases hq
  rename_i a
  split at hq
  · rename_i n htk
    obtain ⟨d, hd, hs, ha⟩ := tk_spec htk
    unfold atN at hq
    split at hq
    · rename_i b o
      cases hr : rdN H b (o + 0) n with
      | none => rw [hr] at hq; cases hq
      | some xs =>
        rw [hr] at hq
        simp at hq
        subst hq
        obtain ⟨hrg, hl⟩ := rdN_range h hr
        have hrow : d.isRow = true := by
          unfold isAg at ha
          rw [hd] at ha
          cases d <;> simp_all
        refine run_loadAt_mid w b o t xs d hrg hd hrow ?_
        unfold sz at hs
        rw [hs, hl]
    · simp at hq
  · rename_i n htk
    obtain ⟨d, hd, hs, ha⟩ := tk_spec htk
    unfold at1 at hq
    split at hq
    · rename_i b o
      have hc := rd1_cell h hq
      simp only [Nat.add_zero] at hc
      have hisa := run_isAgg hd w
      rw [ha] at hisa
      simp [Instr.loadAt, Instr.sureAddr, loadVar, hisa, hc]
    · cases hq
  · cases hq

/-! ### Parts of values -/
def partL (P : Program) (t : TypeId) (cs : List Value) (off : Nat) : Option Value :=
  match tk P t with
  | some (true, n) => some (.agg ((cs.drop off).take n).toArray)
  | some (false, _) => cs[off]?
  | none => none

theorem part_ok {P : Program} {t : TypeId} {cs : List Value} {off : Nat} {v : Value} (hq : partL P t cs off = some v) (w : World) : (part t cs.toArray off).run P w = .ok v w := by
  unfold partL at hq
  split at hq
  · rename_i n htk
    obtain ⟨d, hd, hs, ha⟩ := tk_spec htk
    have hisa := run_isAgg hd w
    rw [ha] at hisa
    simp only [Option.some.injEq] at hq
    subst hq
    simp only [part, Sem.run_bind, hisa, Result.andThen_ok, if_true, run_sizeOf hs w, Sem.run_pure]
    congr 2
    apply Array.ext'
    simp
  · rename_i n htk
    obtain ⟨d, hd, hs, ha⟩ := tk_spec htk
    have hisa := run_isAgg hd w
    rw [ha] at hisa
    simp only [part, Sem.run_bind, hisa, Result.andThen_ok]
    simp [hq]
  · cases hq

def cellsV : Value → List Value
  | .agg cs => cs.toList
  | v => [v]
theorem cells_toList (v : Value) : v.cells.toList = cellsV v := by cases v <;> simp [Value.cells, cellsV]

/-- A struct's field: its type. -/
def fieldT (P : Program) (s : TypeId) (f : Nat) : Option (Nat × TypeId) :=
  match P.underlying s with
  | some (.struct fs) => (fs[f]?).map fun x => (x.offset, x.type)
  | _ => none

def qField (P : Program) (s : TypeId) (x : Value) (f : Nat) : Option Value :=
  match x, fieldT P s f with
  | .agg cs, some (off, t) => partL P t cs.toList off
  | _, _ => none

theorem qField_ok {P : Program} {s : TypeId} {x v : Value} {f : Nat} (hq : qField P s x f = some v) (w : World) : (Instr.field s x f).run P w = .ok v w := by
  unfold qField at hq
  split at hq
  · rename_i cs off t hf
    unfold fieldT at hf
    split at hf
    · rename_i fs hu
      cases hx : fs[f]? with
      | none => rw [hx] at hf; cases hf
      | some fl =>
        rw [hx] at hf
        simp at hf
        obtain ⟨rfl, rfl⟩ := hf
        have hp := part_ok hq w
        simp only [Array.toArray_toList] at hp
        simp [Instr.field, run_underlying hu, hx, asAgg, hp]
    · cases hf
  · cases hq

def qFieldAddr (P : Program) (s : TypeId) (x : Value) (f : Nat) : Option Value :=
  match x, fieldT P s f with
  | .pointer (some ⟨b, o, none⟩), some (off, t) => match sz P t with
    | some (_ + 1) => some (.pointer (some ⟨b, o + off, none⟩))
    | _ => none
  | _, _ => none

theorem qFieldAddr_ok {P : Program} {s : TypeId} {x v : Value} {f : Nat} (hq : qFieldAddr P s x f = some v) (w : World) : (Instr.fieldAt s x f).run P w = .ok v w := by
  unfold qFieldAddr at hq
  split at hq
  · rename_i b o off t hf
    unfold fieldT at hf
    split at hf
    · rename_i fs hu
      cases hx : fs[f]? with
      | none => rw [hx] at hf; cases hf
      | some fl =>
        rw [hx] at hf
        simp at hf
        obtain ⟨rfl, rfl⟩ := hf
        split at hq
        · rename_i n hs
          simp only [Option.some.injEq] at hq
          subst hq
          simp [Instr.fieldAt, run_underlying hu, hx, Instr.sureAddr, fieldPlace, run_sizeOf hs, Addr.add_mid]
        · cases hq
    · cases hf
  · cases hq

/-! ### Places in rows -/
def qIndexAddr (P : Program) (t : TypeId) (x i : Value) : Option Value :=
  match i with
  | .int _ i => match und P t, x with
    | .arr n e, .pointer (some ⟨b, o, none⟩) => match sz P e with
      | some s => if 0 ≤ i ∧ i < (n : Int) then some (.pointer (some ⟨b, o + i.toNat * s, none⟩)) else none
      | none => none
    | .slice e, .slice a n _ => match sz P e with
      | some s => if (0 ≤ i ∧ i < (n : Int)) ∧ a.isSome = true then some (.pointer (a.map (·.add (i.toNat * s)))) else none
      | none => none
    | _, _ => none
  | _ => none

theorem qIndexAddr_ok {P : Program} {t : TypeId} {x i v : Value} (hq : qIndexAddr P t x i = some v) (w : World) : (Instr.indexAt t x i).run P w = .ok v w := by
  unfold qIndexAddr at hq
  split at hq
  case h_2 => cases hq
  rename_i k i
  split at hq
  · rename_i n e b o hu
    have hu := und_arr hu
    split at hq
    · rename_i s hs
      split at hq
      · rename_i hi
        simp only [Option.some.injEq] at hq
        subst hq
        simp [Instr.indexAt, asIntOf, run_underlying hu, Instr.sureAddr, hi, run_sizeOf hs, Addr.add_mid]
      · cases hq
    · cases hq
  · rename_i e a n c hu
    have hu := und_slice hu
    split at hq
    · rename_i s hs
      split at hq
      · rename_i hi
        obtain ⟨hi, ha⟩ := hi
        simp only [Option.some.injEq] at hq
        subst hq
        cases a with
        | none => cases ha
        | some a => simp [Instr.indexAt, asIntOf, run_underlying hu, hi, run_sizeOf hs]
      · cases hq
    · cases hq
  · cases hq

def qIndex (P : Program) (t : TypeId) (x i : Value) : Option Value :=
  match i with
  | .int _ i => match und P t, x with
    | .arr n e, .agg cs => match sz P e with
      | some s => if 0 ≤ i ∧ i < (n : Int) then partL P e cs.toList (i.toNat * s) else none
      | none => none
    | .str, .string s => if 0 ≤ i then (s.data.toList[i.toNat]?).map fun c => .int .u8 c.toNat else none
    | _, _ => none
  | _ => none

theorem qIndex_ok {P : Program} {t : TypeId} {x i v : Value} (hq : qIndex P t x i = some v) (w : World) : (Instr.index t x i).run P w = .ok v w := by
  unfold qIndex at hq
  split at hq
  case h_2 => cases hq
  rename_i k i
  split at hq
  · rename_i n e cs hu
    have hu := und_arr hu
    split at hq
    · rename_i s hs
      split at hq
      · rename_i hi
        have hp := part_ok hq w
        simp only [Array.toArray_toList] at hp
        simp [Instr.index, asIntOf, run_underlying hu, hi, run_sizeOf hs, hp]
      · cases hq
    · cases hq
  · rename_i s hu
    have hu := und_str hu
    split at hq
    · rename_i hi
      cases hx : s.data.toList[i.toNat]? with
      | none => rw [hx] at hq; cases hq
      | some c =>
        rw [hx] at hq
        simp only [Option.map_some, Option.some.injEq] at hq
        subst hq
        have hx' : s[i.toNat]? = some c := by
          have hlt : i.toNat < s.size := by
            have := (List.getElem?_eq_some_iff.1 hx).1
            simpa using this
          rw [getElem?_pos s i.toNat hlt]
          have := (List.getElem?_eq_some_iff.1 hx).2
          rw [← this]
          rfl
        simp [Instr.index, asIntOf, run_underlying hu, hi, hx']
    · cases hq
  · cases hq

/-! ### Slicing -/
def getI : Option Value → Int → Option Int
  | none, d => some d
  | some (.int _ i), _ => some i
  | _, _ => none

def bounds3 (lo hi mx : Option Value) (len cap : Nat) : Option (Nat × Nat × Nat) :=
  match getI mx cap, getI hi len, getI lo 0 with
  | some m, some h, some l => if (0 ≤ l ∧ l ≤ h ∧ h ≤ m ∧ m ≤ (cap : Int)) ∧ (mx.isSome = true → hi.isSome = true) then some (l.toNat, h.toNat, m.toNat) else none
  | _, _, _ => none

theorem sliceBound_ok {P : Program} {k : IntKind} {i : Int} {y : Nat} (h : 0 ≤ i ∧ i ≤ (y : Int)) (code : BoundsCode) (w : World) : (Instr.sliceBound (.int k i) y code).run P w = .ok i.toNat w := by
  simp [Instr.sliceBound, asIntOf, h]

theorem bounds3_ok {P : Program} {lo hi mx : Option Value} {len cap l h m : Nat} (hq : bounds3 lo hi mx len cap = some (l, h, m)) (isS : Bool) (w : World) :
    (Instr.sliceBounds isS len cap lo hi mx).run P w = .ok (l, h, m) w := by
  unfold bounds3 at hq
  split at hq
  case h_2 => cases hq
  rename_i m' h' l' hm hh hl
  split at hq
  case isFalse => cases hq
  rename_i hc
  obtain ⟨⟨h0, h1, h2, h3⟩, h4⟩ := hc
  simp only [Option.some.injEq, Prod.mk.injEq] at hq
  obtain ⟨rfl, rfl, rfl⟩ := hq
  have hM : ∀ (k : IntKind) (code : BoundsCode) (w : World), (Instr.sliceBound (.int k m') cap code).run P w = .ok m'.toNat w := fun k code w => sliceBound_ok ⟨by omega, by omega⟩ code w
  have hH : ∀ (k : IntKind) (code : BoundsCode) (w : World), (Instr.sliceBound (.int k h') m'.toNat code).run P w = .ok h'.toNat w := fun k code w => sliceBound_ok ⟨by omega, by omega⟩ code w
  have hL : ∀ (k : IntKind) (code : BoundsCode) (w : World), (Instr.sliceBound (.int k l') h'.toNat code).run P w = .ok l'.toNat w := fun k code w => sliceBound_ok ⟨by omega, by omega⟩ code w
  cases mx with
  | none =>
    simp only [getI, Option.some.injEq] at hm
    subst hm
    simp only [Int.toNat_natCast] at hH
    cases hi with
    | none =>
      simp only [getI, Option.some.injEq] at hh
      subst hh
      simp only [Int.toNat_natCast] at hL
      cases lo with
      | none => simp only [getI, Option.some.injEq] at hl; subst hl; simp [Instr.sliceBounds]
      | some v => cases v <;> simp only [getI, Option.some.injEq, reduceCtorEq] at hl; subst hl; simp [Instr.sliceBounds, hL]
    | some v =>
      cases v <;> simp only [getI, Option.some.injEq, reduceCtorEq] at hh
      subst hh
      cases lo with
      | none => simp only [getI, Option.some.injEq] at hl; subst hl; simp [Instr.sliceBounds, hH]
      | some v => cases v <;> simp only [getI, Option.some.injEq, reduceCtorEq] at hl; subst hl; simp [Instr.sliceBounds, hH, hL]
  | some v =>
    cases v <;> simp only [getI, Option.some.injEq, reduceCtorEq] at hm
    subst hm
    cases hi with
    | none => simp at h4
    | some v =>
      cases v <;> simp only [getI, Option.some.injEq, reduceCtorEq] at hh
      subst hh
      cases lo with
      | none => simp only [getI, Option.some.injEq] at hl; subst hl; simp [Instr.sliceBounds, hM, hH]
      | some v => cases v <;> simp only [getI, Option.some.injEq, reduceCtorEq] at hl; subst hl; simp [Instr.sliceBounds, hM, hH, hL]

def qSlice (P : Program) (t : TypeId) (x : Value) (lo hi mx : Option Value) : Option Value :=
  match und P t, x with
  | .str, .string s => match mx, bounds3 lo hi none s.size s.size with
    | none, some (l, h, _) => some (.string (s.extract l h))
    | _, _ => none
  | .slice e, .slice a len cap => match sz P e, bounds3 lo hi mx len cap with
    | some s, some (l, h, m) => some (.slice (if m = l then a else a.map (·.add (l * s))) (h - l) (m - l))
    | _, _ => none
  | .arr n e, .pointer (some ⟨b, o, none⟩) => match sz P e, bounds3 lo hi mx n n with
    | some s, some (l, h, m) => some (.slice (some (if m = l then ⟨b, o, none⟩ else ⟨b, o + l * s, none⟩)) (h - l) (m - l))
    | _, _ => none
  | _, _ => none

theorem qSlice_ok {P : Program} {t : TypeId} {x v : Value} {lo hi mx : Option Value} (hq : qSlice P t x lo hi mx = some v) (w : World) : (Instr.sliceAt t x lo hi mx).run P w = .ok v w := by
  unfold qSlice at hq
  split at hq
  · rename_i s hu
    have hu := und_str hu
    split at hq
    · rename_i l h m hb
      simp only [Option.some.injEq] at hq
      subst hq
      simp [Instr.sliceAt, Instr.slice, run_underlying hu, bounds3_ok hb]
    · cases hq
  · rename_i e a len cap hu
    have hu := und_slice hu
    split at hq
    · rename_i s l h m hs hb
      simp only [Option.some.injEq] at hq
      subst hq
      simp [Instr.sliceAt, Instr.slice, run_underlying hu, bounds3_ok hb, run_sizeOf hs]
    · cases hq
  · rename_i n e b o hu
    have hu := und_arr hu
    split at hq
    · rename_i s l h m hs hb
      simp only [Option.some.injEq] at hq
      subst hq
      simp [Instr.sliceAt, Instr.sureAddr, run_underlying hu, bounds3_ok hb, run_sizeOf hs, Addr.add_mid]
    · cases hq
  · cases hq

/-! ### Numbers, bools, strings -/
def qInt (op : BinOp) (k : IntKind) (a b : Int) : Option Value :=
  match op with
  | .add => some (.int k (k.wrap (a + b)))
  | .sub => some (.int k (k.wrap (a - b)))
  | .mul => some (.int k (k.wrap (a * b)))
  | .quo => if b = 0 then none else some (.int k (k.wrap (a.tdiv b)))
  | .rem => if b = 0 then none else some (.int k (a.tmod b))
  | .and => some (.int k (k.wrap (BitVec.ofInt k.bits a &&& BitVec.ofInt k.bits b).toNat))
  | .or => some (.int k (k.wrap (BitVec.ofInt k.bits a ||| BitVec.ofInt k.bits b).toNat))
  | .xor => some (.int k (k.wrap (BitVec.ofInt k.bits a ^^^ BitVec.ofInt k.bits b).toNat))
  | .andNot => some (.int k (k.wrap (BitVec.ofInt k.bits a &&& ~~~ BitVec.ofInt k.bits b).toNat))
  | .eql => some (.bool (a == b))
  | .neq => some (.bool (a != b))
  | .lss => some (.bool (decide (a < b)))
  | .leq => some (.bool (decide (a ≤ b)))
  | .gtr => some (.bool (decide (a > b)))
  | .geq => some (.bool (decide (a ≥ b)))
  | _ => none

def qStr (op : BinOp) (x y : ByteArray) : Option Value :=
  match op with
  | .add => if ((x.size + y.size : Nat) : Int) ≤ 9223372036854775807 then some (.string (x ++ y)) else none
  | .eql => some (.bool (x.toList == y.toList))
  | .neq => some (.bool !(x.toList == y.toList))
  | _ => none

/-- The kinds of plain cells. -/
inductive SK where
  | bool | int | str
  deriving DecidableEq

/-- Cells that are numbers, bools, texts, of these kinds: are they alike? -/
def eqCells : List SK → List Value → List Value → Option Bool
  | [], [], [] => some true
  | .int :: ks, .int k a :: xs, .int k' b :: ys => if k = k' then (eqCells ks xs ys).map (a == b && ·) else none
  | .bool :: ks, .bool a :: xs, .bool b :: ys => (eqCells ks xs ys).map (a == b && ·)
  | .str :: ks, .string a :: xs, .string b :: ys => (eqCells ks xs ys).map (a == b && ·)
  | _, _, _ => none

def qNil (P : Program) (t : TypeId) (x y : Value) : Option Bool :=
  match und P t, x, y with
  | .bool, .bool a, .bool b => some (a == b)
  | .ptr _, .pointer none, .pointer b => some b.isNone
  | .ptr _, .pointer (some _), .pointer none => some false
  | .slice _, .slice none _ _, .slice b _ _ => some b.isNone
  | .slice _, .slice (some _) _ _, .slice none _ _ => some false
  | .map _ _, .map none, .map b => some b.isNone
  | .map _ _, .map (some _), .map none => some false
  | _, _, _ => none

theorem qNil_ok {P : Program} {t : TypeId} {x y : Value} {r : Bool} (hq : qNil P t x y = some r) (w : World) : (Op.equal t x y).run P w = .ok r w := by
  unfold qNil at hq
  unfold Op.equal Op.maxDepth Op.equalIn
  split at hq
  · rename_i a b hu; simp only [Option.some.injEq] at hq; subst hq; simp [run_underlying (und_bool hu)]
  · rename_i e b hu; simp only [Option.some.injEq] at hq; subst hq; simp [run_underlying (und_ptr hu)]
  · rename_i e b hu; simp only [Option.some.injEq] at hq; subst hq; simp [run_underlying (und_ptr hu)]
  · rename_i e _ _ b _ _ hu; simp only [Option.some.injEq] at hq; subst hq; simp [run_underlying (und_slice hu)]
  · rename_i e _ _ _ _ _ hu; simp only [Option.some.injEq] at hq; subst hq; simp [run_underlying (und_slice hu)]
  · rename_i e _ b hu; simp only [Option.some.injEq] at hq; subst hq; simp [run_underlying (und_map hu)]
  · rename_i e _ b hu; simp only [Option.some.injEq] at hq; subst hq; simp [run_underlying (und_map hu)]
  · cases hq

end Go.Proofs.YtfpighmafofoeaaDoor.GL
