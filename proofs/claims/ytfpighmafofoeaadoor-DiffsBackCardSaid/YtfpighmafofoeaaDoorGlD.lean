/- Conversions, building by value, len, min, max; all quiet operations in one function, 'qop', and that the model's own operation yields just that, whatever the world that fits the heap. -/
import Derived.Test.YtfpighmafofoeaaDoorGlC
namespace Go.Proofs.YtfpighmafofoeaaDoor.GL
set_option linter.unusedSimpArgs false
set_option linter.unusedVariables false
open Go Go.RowKit

/-! ### Conversions -/
/-- Cells that are bytes: their numbers. -/
def byteNs : List Value → Option (List Int)
  | [] => some []
  | .int .u8 n :: r => (byteNs r).map (n :: ·)
  | _ => none

theorem byteNs_spec : ∀ {cs : List Value} {ns : List Int}, byteNs cs = some ns → cs = ns.map (Value.int .u8)
  | [], ns, h => by simp only [byteNs, Option.some.injEq] at h; subst h; rfl
  | c :: r, ns, h => by
    unfold byteNs at h
    split at h
    · rename_i e; cases e
    · rename_i n r' e
      cases e
      cases hr : byteNs r with
      | none => rw [hr] at h; cases h
      | some m =>
        rw [hr] at h
        simp only [Option.map_some, Option.some.injEq] at h
        subst h
        rw [byteNs_spec hr]; rfl
    · cases h

def strOfNs (ns : List Int) : ByteArray := ⟨(ns.map fun n => UInt8.ofNat n.toNat).toArray⟩

theorem foldl_strOfNs : ∀ (ns : List Int) (s : ByteArray), ns.foldl (fun r n => r.push (UInt8.ofNat n.toNat)) s = ⟨s.data ++ (ns.map fun n => UInt8.ofNat n.toNat).toArray⟩
  | [], s => by simp
  | n :: ns, s => by
    simp only [List.foldl_cons]
    rw [foldl_strOfNs ns]
    simp [ByteArray.push]

def qConv (P : Program) (s d : TypeId) (x : Value) (H : Heap) : Option Value :=
  match und P s, und P d, x with
  | .int _, .int k, .int _ n => some (.int k (k.wrap n))
  | .str, .str, .string b => some (.string b)
  | .slice e, .str, .slice none _ _ => match und P e with
    | .int .u8 => some (.string (strOfNs []))
    | _ => none
  | .slice e, .str, .slice (some ⟨b, o, none⟩) n _ => match und P e with
    | .int .u8 => match rdN H b o n with
      | some cs => (byteNs cs).map fun ns => .string (strOfNs ns)
      | none => none
    | _ => none
  | .slice e, .str, .slice (some ⟨_, _, some _⟩) 0 _ => match und P e with
    | .int .u8 => some (.string (strOfNs []))
    | _ => none
  | _, _, _ => none

theorem qConv_ok {P : Program} {s d : TypeId} {x v : Value} {W0 w : World} {H : Heap} (h : Sat W0 w H) (hq : qConv P s d x H = some v) : (convert s d x).run P w = .ok v w := by
  unfold qConv at hq
  split at hq
  · rename_i k0 k _ n hs hd
    simp only [Option.some.injEq] at hq
    subst hq
    simp [convert, run_underlying (und_int hs), run_underlying (und_int hd), Conv.intToInt]
  · rename_i b hs hd
    simp only [Option.some.injEq] at hq
    subst hq
    simp [convert, run_underlying (und_str hs), run_underlying (und_str hd)]
  · rename_i e _ _ hs hd
    split at hq
    · rename_i he
      simp only [Option.some.injEq] at hq
      subst hq
      rw [run_convert_bytes_string w s d e none _ _ (und_slice hs) (und_int he) (und_str hd)]
      simp [Conv.bytesToString, strOfNs]
      rfl
    · cases hq
  · rename_i e b o n c hs hd
    split at hq
    · rename_i he
      split at hq
      · rename_i cs hr
        cases hb : byteNs cs with
        | none => rw [hb] at hq; cases hq
        | some ns =>
          rw [hb] at hq
          simp only [Option.map_some, Option.some.injEq] at hq
          subst hq
          obtain ⟨hrg, hl⟩ := rdN_range h hr
          rw [byteNs_spec hb] at hrg hl
          rw [run_convert_bytes_string w s d e _ _ _ (und_slice hs) (und_int he) (und_str hd)]
          have hload := run_loadCells_list (P := P) w ⟨b, o, none⟩ (ns.map (Value.int .u8)) (fun j v hv => by rw [Addr.add_mid]; exact hrg j v hv)
          rw [hl] at hload
          rw [run_bytesToString w _ _ _ ns hload, foldl_strOfNs]
          simp [strOfNs]
      · cases hq
    · cases hq
  · rename_i e b o y c hs hd
    split at hq
    · rename_i he
      simp only [Option.some.injEq] at hq
      subst hq
      rw [run_convert_bytes_string w s d e _ _ _ (und_slice hs) (und_int he) (und_str hd)]
      have hload : (loadCells ⟨b, o, some y⟩ 0).run P w = .ok (([] : List Int).map (Value.int .u8)).toArray w := by simp [loadCells, loadCellsFrom]
      rw [run_bytesToString w _ _ _ [] hload, foldl_strOfNs]
      simp [strOfNs]
    · cases hq
  · cases hq

/-! ### Building by value -/
def partPlace (P : Program) (t : TypeId) (i : Nat) : Option (Nat × Nat) :=
  match und P t with
  | .struct => match fieldT P t i with
    | some (off, ft) => (sz P ft).map fun s => (off, s)
    | none => none
  | .arr _ e => (sz P e).map fun s => (i * s, s)
  | _ => none

def buildF (place : Nat → Option (Nat × Nat)) : List (Nat × Value) → List Value → Option (List Value)
  | [], z => some z
  | (i, v) :: r, z => match place i with
    | some (off, s) => if (cellsV v).length = s ∧ off + s ≤ z.length then buildF place r (splice z off (cellsV v)) else none
    | none => none

theorem foldl_set_splice (off : Nat) : ∀ (cs : List Value) (z : List Value) (j : Nat), off + j + cs.length ≤ z.length →
    ((cs.zipIdx j).foldl (fun (a : Array Value) (p : Value × Nat) => a.setIfInBounds (off + p.2) p.1) z.toArray) = (splice z (off + j) cs).toArray
  | [], z, j, h => by simp [splice]
  | c :: cs, z, j, h => by
    simp only [List.length_cons] at h
    simp only [List.zipIdx_cons, List.foldl_cons, List.setIfInBounds_toArray]
    rw [foldl_set_splice off cs (z.set (off + j) c) (j + 1) (by simp; omega)]
    congr 1
    unfold splice
    rw [show off + (j + 1) = (off + j) + 1 by omega]
    rw [List.take_set, List.drop_set_of_lt (by omega)]
    have h1 : (z.take (off + j + 1)).set (off + j) c = z.take (off + j) ++ [c] := by
      rw [List.take_succ_eq_append_getElem (by omega)]
      rw [List.set_append_right _ _ (by simp; omega)]
      simp [Nat.min_eq_left (show off + j ≤ z.length by omega)]
    rw [h1]
    simp [Nat.add_assoc, Nat.add_comm 1]

theorem fill_buildF (place : Nat → Option (Nat × Nat)) : ∀ (ps : List (Nat × Value)) (z cells : List Value), buildF place ps z = some cells → Instr.fill place z.toArray ps = some cells.toArray
  | [], z, cells, h => by simp only [buildF, Option.some.injEq] at h; subst h; rfl
  | (i, v) :: r, z, cells, h => by
    simp only [buildF] at h
    split at h
    case h_2 => cases h
    rename_i off s hp
    split at h
    case isFalse => cases h
    rename_i hc
    have hsz : v.cells.size = s := by rw [← hc.1, ← cells_toList]; simp
    have hn : ¬ ((decide (v.cells.size ≠ s) || decide (off + v.cells.size > z.toArray.size)) = true) := by
      simp; omega
    have hn' : ¬ (v.cells.size ≠ s ∨ off + v.cells.size > z.toArray.size) := by
      simp; omega
    have hf : (v.cells.zipIdx.foldl (fun cs (c, j) => cs.setIfInBounds (off + j) c) z.toArray) = (splice z off (cellsV v)).toArray := by
      rw [← Array.foldl_toList, Array.toList_zipIdx, cells_toList]
      have := foldl_set_splice off (cellsV v) z 0 (by rw [hc.1]; simpa using hc.2)
      simpa using this
    simp only [Instr.fill, hp]
    rw [if_neg (by first | exact hn | exact hn')]
    rw [hf]
    exact fill_buildF place r _ _ h

def buildOk (P : Program) (t : TypeId) : Bool :=
  match P.underlying t with
  | some (.struct fs) => fs.toList.all fun f => (sz P f.type).isSome
  | some (.array _ e) => (sz P e).isSome
  | _ => false

def qBuild (P : Program) (t : TypeId) (ps : List (Nat × Value)) : Option Value :=
  if buildOk P t = true then
    match zeroV P t with
    | some z => (buildF (partPlace P t) ps (cellsV z)).map fun cs => .agg cs.toArray
    | none => none
  else none

theorem mapM_ok {P : Program} {α β : Type} (f : α → Sem β) (g : α → β) (w : World) : ∀ (l : List α), (∀ x ∈ l, (f x).run P w = .ok (g x) w) → (l.mapM f).run P w = .ok (l.map g) w
  | [], _ => by simp
  | x :: l, h => by
    rw [List.mapM_cons]
    simp only [Sem.run_bind, h x (by simp), Result.andThen_ok, mapM_ok f g w l (fun y hy => h y (by simp [hy])), Sem.run_pure, List.map_cons]

theorem qBuild_ok {P : Program} {t : TypeId} {ps : Array (Nat × Value)} {v : Value} (hq : qBuild P t ps.toList = some v) (w : World) : (Instr.build t ps).run P w = .ok v w := by
  unfold qBuild at hq
  split at hq
  case isFalse => cases hq
  rename_i hok
  split at hq
  case h_2 => cases hq
  rename_i z hz
  cases hb : buildF (partPlace P t) ps.toList (cellsV z) with
  | none => rw [hb] at hq; cases hq
  | some cs =>
    rw [hb] at hq
    simp only [Option.map_some, Option.some.injEq] at hq
    subst hq
    have hzc : z.cells = (cellsV z).toArray := by rw [← cells_toList]
    unfold buildOk at hok
    split at hok
    · rename_i fs hu
      have hund : und P t = .struct := by unfold und; rw [hu]
      have hpl : (fs.mapM fun f => (do pure (f.offset, ← sizeOf f.type) : Sem (Nat × Nat))).run P w = .ok ((fs.toList.map fun f => (f.offset, (sz P f.type).getD 0)).toArray) w := by
        rw [Array.mapM_eq_mapM_toList, Sem.run_map]
        rw [mapM_ok (P := P) _ (fun f : Field => (f.offset, (sz P f.type).getD 0)) w fs.toList (fun f hf => by
          have := (List.all_eq_true.1 hok) f hf
          obtain ⟨s, hs⟩ := Option.isSome_iff_exists.1 this
          simp [run_sizeOf hs, hs])]
        rfl
      have hplace : (fun i => ((fs.toList.map fun f => (f.offset, (sz P f.type).getD 0)).toArray)[i]?) = partPlace P t := by
        funext i
        unfold partPlace fieldT
        rw [hund, hu]
        simp only [List.getElem?_toArray, List.getElem?_map, Array.getElem?_toList]
        cases hi : fs[i]? with
        | none => simp
        | some f =>
          have hm : f ∈ fs.toList := Array.mem_toList_iff.2 (Array.mem_of_getElem? hi)
          obtain ⟨s, hs⟩ := Option.isSome_iff_exists.1 ((List.all_eq_true.1 hok) f hm)
          simp [hs]
      simp only [Instr.build, Sem.run_bind, run_zeroValue hz w, Result.andThen_ok, run_underlying hu, hpl, hplace, hzc]
      rw [fill_buildF _ _ _ _ hb]
      simp
    · rename_i n e hu
      have hund : und P t = .arr n e := by unfold und; rw [hu]
      obtain ⟨s, hs⟩ := Option.isSome_iff_exists.1 hok
      have hplace : (fun i => some (i * s, s)) = partPlace P t := by
        funext i
        unfold partPlace
        rw [hund]
        simp [hs]
      simp only [Instr.build, Sem.run_bind, run_zeroValue hz w, Result.andThen_ok, run_underlying hu, run_sizeOf hs w, hplace, hzc]
      rw [fill_buildF _ _ _ _ hb]
      simp
    · cases hok

/-! ### len, min, max -/
def qLen (P : Program) (t : TypeId) (x : Value) (H : Heap) : Option Value :=
  match und P t, x with
  | .str, .string s => some (.int .i64 s.size)
  | .arr n _, _ => some (.int .i64 n)
  | .slice _, .slice _ n _ => some (.int .i64 n)
  | .map _ _, .map none => some (.int .i64 0)
  | .map _ _, .map (some r) => match H r with
    | some (.map es) => some (.int .i64 es.length)
    | _ => none
  | .ptr a, _ => match und P a with
    | .arr n _ => some (.int .i64 n)
    | _ => none
  | _, _ => none

theorem qLen_ok {P : Program} {t : TypeId} {ts : Array TypeId} {ty : TypeId} {x v : Value} {W0 w : World} {H : Heap} (h : Sat W0 w H) (ht : ts[0]? = some t) (hq : qLen P t x H = some v) :
    (Builtin.len_ ts ty #[x]).run P w = .ok v w := by
  unfold qLen at hq
  split at hq
  · rename_i s hu; simp only [Option.some.injEq] at hq; subst hq; simp [Builtin.len_, ht, run_underlying (und_str hu), goInt]
  · rename_i n e hu; simp only [Option.some.injEq] at hq; subst hq; simp [Builtin.len_, ht, run_underlying (und_arr hu), goInt]
  · rename_i e a n c hu; simp only [Option.some.injEq] at hq; subst hq; simp [Builtin.len_, ht, run_underlying (und_slice hu), goInt]
  · rename_i k e hu; simp only [Option.some.injEq] at hq; subst hq; simp [Builtin.len_, ht, run_underlying (und_map hu), goInt]
  · rename_i k e r hu
    split at hq
    · rename_i es he
      simp only [Option.some.injEq] at hq; subst hq
      obtain ⟨_, ents, hm, hes, _⟩ := (show MapRep _ _ _ _ from h.rep r _ he)
      have hget : (getObj r).run P w = .ok (.map ents ents.size) w := by simp [getObj, Sem.run, hm]
      simp [Builtin.len_, ht, run_underlying (und_map hu), goInt, hget, ← hes]
    · cases hq
  · rename_i a hu
    split at hq
    · rename_i n e ha
      simp only [Option.some.injEq] at hq; subst hq
      simp [Builtin.len_, ht, run_underlying (und_ptr hu), run_underlying (und_arr ha), goInt]
    · cases hq
  · cases hq

def min2 : Value → Value → Option Value
  | .int k x, .int _ y => some (.int k (if y < x then y else x))
  | _, _ => none
def max2 : Value → Value → Option Value
  | .int k x, .int _ y => some (.int k (if y > x then y else x))
  | _, _ => none
def foldO (f : Value → Value → Option Value) : Value → List Value → Option Value
  | x, [] => some x
  | x, y :: r => match f x y with
    | some z => foldO f z r
    | none => none

theorem foldO_ok {P : Program} {f : Value → Value → Option Value} {g : Value → Value → Sem Value} {w : World} (hfg : ∀ x y z, f x y = some z → (g x y).run P w = .ok z w) :
    ∀ (l : List Value) (x v : Value), foldO f x l = some v → (l.foldlM g x).run P w = .ok v w
  | [], x, v, h => by simp only [foldO, Option.some.injEq] at h; subst h; simp
  | y :: r, x, v, h => by
    simp only [foldO] at h
    split at h
    · rename_i z hz
      simp only [List.foldlM_cons, Sem.run_bind, hfg _ _ _ hz, Result.andThen_ok]
      exact foldO_ok hfg r z v h
    · cases h

theorem min2_ok {P : Program} {w : World} (x y z : Value) (h : min2 x y = some z) : (Builtin.min2 x y).run P w = .ok z w := by
  unfold min2 at h
  split at h
  · simp only [Option.some.injEq] at h; subst h; simp [Builtin.min2]
  · cases h
theorem max2_ok {P : Program} {w : World} (x y z : Value) (h : max2 x y = some z) : (Builtin.max2 x y).run P w = .ok z w := by
  unfold max2 at h
  split at h
  · simp only [Option.some.injEq] at h; subst h; simp [Builtin.max2]
  · cases h

/-! ### One and two operands -/
def qUn (op : UnOp) (x : Value) : Option Value :=
  match op, x with
  | .neg, .int k n => some (.int k (k.wrap (0 - n)))
  | .xor, .int k n => some (.int k (k.wrap (BitVec.ofInt k.bits (if k.signed then -1 else k.max) ^^^ BitVec.ofInt k.bits n).toNat))
  | .not, .bool b => some (.bool !b)
  | _, _ => none

theorem qUn_ok {P : Program} {op : UnOp} {x v : Value} (hq : qUn op x = some v) (w : World) : (Op.unary op x).run P w = .ok v w := by
  unfold qUn at hq
  split at hq <;> first
    | (simp only [Option.some.injEq] at hq; subst hq; simp [Op.unary, Op.intArith, Op.intBits]; done)
    | cases hq

def qCap (P : Program) (t : TypeId) (x : Value) : Option Value :=
  match und P t, x with
  | .slice _, .slice _ _ c => some (.int .i64 c)
  | _, _ => none
theorem qCap_ok {P : Program} {t : TypeId} {ts : Array TypeId} {ty : TypeId} {x v : Value} {w : World} (ht : ts[0]? = some t) (hq : qCap P t x = some v) :
    (Builtin.cap_ ts ty #[x]).run P w = .ok v w := by
  unfold qCap at hq
  split at hq
  · rename_i e a n c hu; simp only [Option.some.injEq] at hq; subst hq; simp [Builtin.cap_, ht, run_underlying (und_slice hu), goInt]
  · cases hq

/-- The kinds of the cells of a type that can be told alike cell by cell. -/
def kinds (P : Program) (t : TypeId) : Option (List SK) :=
  if P.eqGuardType P.depth t = false ∧ isAg P t = true then flatK P 20 t else none

def qEq (P : Program) (t : TypeId) (x y : Value) : Option Bool :=
  match x, y with
  | .agg xs, .agg ys => match kinds P t with
    | some ks => eqCells ks xs.toList ys.toList
    | none => none
  | x, y => qNil P t x y

theorem qEq_ok {P : Program} {t : TypeId} {x y : Value} {r : Bool} (hq : qEq P t x y = some r) (w : World) : (Op.equal t x y).run P w = .ok r w := by
  unfold qEq at hq
  split at hq
  · rename_i xs ys
    split at hq
    · rename_i ks hk
      unfold kinds at hk
      split at hk
      · rename_i hg
        have := flat_eq (P := P) 9980 20 t ks hk xs.toList ys.toList r w hq
        simp only [mkV, hg.2, if_true, Array.toArray_toList] at this
        exact this
      · cases hk
    · cases hq
  · exact qNil_ok hq w

def qBin (P : Program) (op : BinOp) (t : TypeId) (x y : Value) : Option Value :=
  match x, y with
  | .int k a, .int k' b => match op with
    | .shl => if 0 ≤ b then some (.int k (k.wrap (a * 2 ^ (min b.toNat k.bits)))) else none
    | .shr => if 0 ≤ b then some (.int k (a.fdiv (2 ^ (min b.toNat k.bits)))) else none
    | op => if k = k' then qInt op k a b else none
  | .string a, .string b => qStr op a b
  | x, y => match op with
    | .eql => (qEq P t x y).map fun r => .bool r
    | .neq => (qEq P t x y).map fun r => .bool !r
    | _ => none

theorem eqGuard_ok {P : Program} {op : BinOp} {t : TypeId} {x y : Operand} {a b : Value} {r : Bool} (hq : qEq P t a b = some r) (w : World) : (eqGuard op t x y a b).run P w = .ok () w := by
  unfold qEq at hq
  split at hq
  · split at hq
    · rename_i ks hk
      unfold kinds at hk
      split at hk
      · rename_i hg
        exact run_eqGuard_agg w op t x y _ _ hg.1
      · cases hk
    · cases hq
  · unfold qNil at hq
    split at hq <;> first
      | (simp only [eqGuard_at_bool, eqGuard_at_pointer, eqGuard_at_slice, eqGuard_at_map, Sem.run_pure]; done)
      | cases hq

theorem qInt_ok {P : Program} {op : BinOp} {k : IntKind} {a b : Int} {v : Value} (t : TypeId) (hop : op ≠ .shl ∧ op ≠ .shr) (hq : qInt op k a b = some v) (w : World) :
    (binOp op t (.int k a) (.int k b)).run P w = .ok v w := by
  obtain ⟨h1, h2⟩ := hop
  cases op <;> simp only [qInt] at hq <;> first
    | (exact absurd rfl h1)
    | (exact absurd rfl h2)
    | (split at hq
       · cases hq
       · rename_i hb; simp only [Option.some.injEq] at hq; subst hq; simp [binOp, Op.intDiv, hb]; done)
    | (simp only [Option.some.injEq] at hq; subst hq; simp [binOp, Op.intArith, Op.intBits, Op.intCmp]; done)

theorem qBin_ok {P : Program} {op : BinOp} {t : TypeId} {x y : Operand} {a b v : Value} (hq : qBin P op t a b = some v) (w : World) :
    (do eqGuard op t x y a b; binOp op t a b : Sem Value).run P w = .ok v w := by
  unfold qBin at hq
  split at hq
  · rename_i k p k' q
    have hg : (eqGuard op t x y (.int k p) (.int k' q)).run P w = .ok () w := by cases op <;> simp [eqGuard]
    simp only [Sem.run_bind, hg, Result.andThen_ok]
    split at hq
    · split at hq
      · rename_i hb
        simp only [Option.some.injEq] at hq; subst hq
        have : ¬ q < 0 := by omega
        simp [binOp, Op.shift, this]
      · cases hq
    · split at hq
      · rename_i hb
        simp only [Option.some.injEq] at hq; subst hq
        have : ¬ q < 0 := by omega
        simp [binOp, Op.shift, this]
      · cases hq
    · rename_i hn1 hn2
      split at hq
      · rename_i hk
        subst hk
        exact qInt_ok t ⟨fun e => hn1 e, fun e => hn2 e⟩ hq w
      · cases hq
  · rename_i p q
    have hg : (eqGuard op t x y (.string p) (.string q)).run P w = .ok () w := by cases op <;> simp [eqGuard]
    simp only [Sem.run_bind, hg, Result.andThen_ok]
    have hb : binOp op t (.string p) (.string q) = Op.stringOp op p q := by cases op <;> rfl
    rw [hb]
    unfold qStr at hq
    split at hq
    · split at hq
      · rename_i hle
        simp only [Option.some.injEq] at hq; subst hq
        have : ¬ (((p.size + q.size : Nat) : Int) > IntKind.i64.max) := by rw [IntKind.max_i64]; omega
        simp only [Op.stringOp, this, if_false, Sem.run_pure]
      · cases hq
    · simp only [Option.some.injEq] at hq; subst hq; simp [Op.stringOp]
    · simp only [Option.some.injEq] at hq; subst hq; simp [Op.stringOp]
    · cases hq
  · rename_i hni hns
    split at hq
    · cases he : qEq P t a b with
      | none => rw [he] at hq; cases hq
      | some r =>
        rw [he] at hq
        simp only [Option.map_some, Option.some.injEq] at hq; subst hq
        have hb : binOp .eql t a b = (do pure (.bool (← Op.equal t a b))) := by
          cases a <;> cases b <;> first | rfl | (exact absurd rfl (hni _ _ _ _ rfl)) | (exfalso; exact hni _ _ _ _ rfl rfl) | (exfalso; exact hns _ _ rfl rfl) | (simp [qEq, qNil] at he)
        simp only [Sem.run_bind, eqGuard_ok he w, Result.andThen_ok, hb, qEq_ok he w, Sem.run_pure]
    · cases he : qEq P t a b with
      | none => rw [he] at hq; cases hq
      | some r =>
        rw [he] at hq
        simp only [Option.map_some, Option.some.injEq] at hq; subst hq
        have hb : binOp .neq t a b = (do pure (.bool (!(← Op.equal t a b)))) := by
          cases a <;> cases b <;> first | rfl | (exact absurd rfl (hni _ _ _ _ rfl)) | (exfalso; exact hni _ _ _ _ rfl rfl) | (exfalso; exact hns _ _ rfl rfl) | (simp [qEq, qNil] at he)
        simp only [Sem.run_bind, eqGuard_ok he w, Result.andThen_ok, hb, qEq_ok he w, Sem.run_pure]
    · cases hq

/-! ### All of them -/
def qExtract (x : Value) (i : Nat) : Option Value :=
  match x with
  | .tuple vs => vs.toList[i]?
  | _ => none

def qop (P : Program) (ρ : Operand → Value) (op : Op) (H : Heap) : Option Value :=
  match op with
  | .move x | .assign x => some (ρ x)
  | .pick c a b => match ρ c with
    | .bool t => some (if t then ρ a else ρ b)
    | _ => none
  | .build t ps => qBuild P t (ps.toList.map fun p => (p.1, ρ p.2))
  | .load t a => qLoad P t (ρ a) H
  | .nilCheck x => match ρ x with
    | .pointer (some a) => some (.pointer (some a))
    | _ => none
  | .binOp op t x y _ => qBin P op t (ρ x) (ρ y)
  | .unOp op _ x => qUn op (ρ x)
  | .convert s d x => qConv P s d (ρ x) H
  | .makeFunc fn first captured => some (.func fn (first.map ρ) (captured.map ρ))
  | .slice t x lo hi mx => qSlice P t (ρ x) (lo.map ρ) (hi.map ρ) (mx.map ρ)
  | .fieldAddr s x f => qFieldAddr P s (ρ x) f
  | .field s x f => qField P s (ρ x) f
  | .indexAddr t x i => qIndexAddr P t (ρ x) (ρ i)
  | .index t x i => qIndex P t (ρ x) (ρ i)
  | .extract t i => qExtract (ρ t) i
  | .call c => match c.callee with
    | .builtin .len => match c.argTypes.toList, c.args.toList with
      | t :: _, [x] => qLen P t (ρ x) H
      | _, _ => none
    | .builtin .cap => match c.argTypes.toList, c.args.toList with
      | t :: _, [x] => qCap P t (ρ x)
      | _, _ => none
    | .builtin .min => match c.args.toList with
      | x :: r => foldO min2 (ρ x) (r.map ρ)
      | [] => none
    | .builtin .max => match c.args.toList with
      | x :: r => foldO max2 (ρ x) (r.map ρ)
      | [] => none
    | _ => none
  | _ => none

theorem qop_ok {P : Program} {ρ : Operand → Value} {o : Oper} {v : Value} {W0 w : World} {H : Heap} (h : Sat W0 w H) (hq : qop P ρ o.op H = some v) : (execOp ρ o).run P w = .ok (.value v) w := by
  unfold qop at hq
  unfold execOp
  generalize o.op = op at hq
  cases op with
  | move x => simp only [Option.some.injEq] at hq; subst hq; simp
  | assign x => simp only [Option.some.injEq] at hq; subst hq; simp
  | pick c a b =>
    simp only at hq
    split at hq
    · rename_i t ht
      simp only [Option.some.injEq] at hq; subst hq
      cases t <;> simp [ht, asBool]
    · cases hq
  | build t ps =>
    have := qBuild_ok (ps := ps.map fun p => (p.1, ρ p.2)) (by simpa using hq) w
    simp [this]
  | load t a => simp [qLoad_ok h hq]
  | nilCheck x =>
    simp only at hq
    split at hq
    · rename_i a ha
      simp only [Option.some.injEq] at hq; subst hq
      simp [ha]
    · cases hq
  | binOp op t x y yt =>
    have := qBin_ok (x := x) (y := y) hq w
    simp only [Sem.run_bind] at this ⊢
    rw [this]
    simp
  | unOp op t x => simp [qUn_ok hq]
  | convert s d x => simp [qConv_ok h hq]
  | makeFunc fn first captured => simp only [Option.some.injEq] at hq; subst hq; simp [Instr.makeFunc]
  | slice t x lo hi mx => simp [qSlice_ok hq]
  | fieldAddr s x f => simp [qFieldAddr_ok hq]
  | field s x f => simp [qField_ok hq]
  | indexAddr t x i => simp [qIndexAddr_ok hq]
  | index t x i => simp [qIndex_ok hq]
  | extract t i =>
    simp only [qExtract] at hq
    split at hq
    · rename_i vs hv
      simp only [Array.getElem?_toList] at hq
      simp [Instr.extract, hv, hq]
    · cases hq
  | call c =>
    simp only at hq
    obtain ⟨callee, args, ats⟩ := c
    simp only at hq
    split at hq
    · split at hq
      · rename_i t _ x ht hx
        have ha : args = #[x] := by rw [← Array.toArray_toList (xs := args), hx]
        have ht' : ats[0]? = some t := by rw [← Array.getElem?_toList, ht]; rfl
        subst ha
        have := qLen_ok (ts := ats) (ty := o.type) h ht' hq
        simp [resolve, invoke, builtin, this]
      · cases hq
    · split at hq
      · rename_i t _ x ht hx
        have ha : args = #[x] := by rw [← Array.toArray_toList (xs := args), hx]
        have ht' : ats[0]? = some t := by rw [← Array.getElem?_toList, ht]; rfl
        subst ha
        have := qCap_ok (ts := ats) (ty := o.type) (w := w) ht' hq
        simp [resolve, invoke, builtin, this]
      · cases hq
    · split at hq
      · rename_i x r hx
        have hf := foldO_ok (P := P) (w := w) (f := min2) (g := Builtin.min2) (min2_ok (P := P) (w := w)) _ _ _ hq
        simp [resolve, invoke, builtin, Builtin.min_, hx, hf]
      · cases hq
    · split at hq
      · rename_i x r hx
        have hf := foldO_ok (P := P) (w := w) (f := max2) (g := Builtin.max2) (max2_ok (P := P) (w := w)) _ _ _ hq
        simp [resolve, invoke, builtin, Builtin.max_, hx, hf]
      · cases hq
    · cases hq
  | _ => cases hq

end Go.Proofs.YtfpighmafofoeaaDoor.GL
