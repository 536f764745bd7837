/- Rules by which 'simp' runs code. -/
import Derived.Test.YtfpighmafofoeaaDoorGlQ
import Derived.IntWalk
namespace Go.Proofs.YtfpighmafofoeaaDoor.GL
set_option linter.unusedSimpArgs false
set_option linter.unusedVariables false
open Go Go.RowKit

/-- Many cells alike (kept whole by simp). -/
def rep (n : Nat) (v : Value) : List Value := List.replicate n v
theorem rep_u8 (n : Nat) : rep n (.int .u8 0) = (List.replicate n (0 : UInt8)).map u8V := by unfold rep; rw [List.map_replicate]; rfl
theorem rep_i64 (n : Nat) : rep n (.int .i64 0) = (List.replicate n (0 : Int)).map (Value.int .i64) := by unfold rep; rw [List.map_replicate]
theorem rep_len (n : Nat) (v : Value) : (rep n v).length = n := by simp [rep]
attribute [simp] rep_len

/-- Goes on behind an operation. -/
def Knext (P : Program) (ops : Array Oper) (d : Option Tmp) (rest : List Oper) (K : St → Prop) (s : St) : Kont := fun v H => eops P ops rest K (s.put d v H)
def xop (P : Program) (s : St) (op : Op) (K : Kont) : Prop := eop P s.eval ⟨none, op, 0, "", #[], none⟩ s.heap K
def onSome (o : Option Value) (K : Kont) (H : Heap) : Prop := ∃ v, o = some v ∧ K v H
def gval (ops : Array Oper) (s : St) (j : Nat) : Value := match (ops[j]?).bind (·.dst) with | some d => s.env d | none => undef
/-- A guarded operation. -/
def gdK (v : Value) (w : Bool) (P : Program) (ops : Array Oper) (d : Option Tmp) (op : Op) (rest : List Oper) (K : St → Prop) (s : St) : Prop :=
  match v with
  | .bool b => if b = w then xop P s op (Knext P ops d rest K s) else eops P ops rest K (s.put d undef s.heap)
  | _ => eops P ops rest K (s.put d undef s.heap)
def condK (v : Value) (P : Program) (a b : Code) (K : Post) (s : St) : Prop :=
  match v with
  | .bool t => (t = true → ewp P a K s) ∧ (t = false → ewp P b K s)
  | _ => False

section
variable {P : Program} {ops : Array Oper} {rest : List Oper} {K : St → Prop} {s : St} {d : Option Tmp} {op : Op} {ty : TypeId} {pos : String} {af : Array Edge} {j : Nat} {w : Bool} {H : Heap} {e : Nat → Value} {v : Value}

theorem eop_xop (o : Oper) (K : Kont) : eop P s.eval o s.heap K = xop P s o.op K := Eq.trans rfl rfl
theorem eops_nil : eops P ops [] K s = K s := Eq.trans rfl rfl
theorem eops_none : eops P ops (⟨d, op, ty, pos, af, none⟩ :: rest) K s = xop P s op (Knext P ops d rest K s) := by
  apply propext
  simp [eops, wantE, eop_xop]
  exact Iff.rfl
theorem eops_some : eops P ops (⟨d, op, ty, pos, af, some (j, w)⟩ :: rest) K s = gdK (gval ops s j) w P ops d op rest K s := by
  apply propext
  simp only [eops, wantE, gval, gdK]
  cases hq : (ops[j]?).bind (·.dst) with
  | none => simp [undef]
  | some i =>
    simp only
    cases hv : s.env i <;> simp [eop_xop]
    rename_i b
    cases b <;> cases w <;> simp <;> exact Iff.rfl
theorem knext_app : Knext P ops d rest K s v H = eops P ops rest K (s.put d v H) := Eq.trans rfl rfl
theorem gdK_tt : gdK (.bool true) true P ops d op rest K s = xop P s op (Knext P ops d rest K s) := by simp [gdK]
theorem gdK_ff : gdK (.bool false) false P ops d op rest K s = xop P s op (Knext P ops d rest K s) := by simp [gdK]
theorem gdK_tf : gdK (.bool true) false P ops d op rest K s = eops P ops rest K (s.put d undef s.heap) := by simp [gdK]
theorem gdK_ft : gdK (.bool false) true P ops d op rest K s = eops P ops rest K (s.put d undef s.heap) := by simp [gdK]
theorem gdK_split {b : Bool} (h1 : b = true → gdK (.bool true) w P ops d op rest K s) (h2 : b = false → gdK (.bool false) w P ops d op rest K s) : gdK (.bool b) w P ops d op rest K s := by
  cases b
  · exact h2 rfl
  · exact h1 rfl
theorem gdK_undef : gdK undef w P ops d op rest K s = eops P ops rest K (s.put d undef s.heap) := Eq.trans rfl rfl

def gvalL (l : List Oper) (s : St) (j : Nat) : Value := match (l[j]?).bind (·.dst) with | some d => s.env d | none => undef
theorem gval_L {l : List Oper} : gval l.toArray s j = gvalL l s j := by simp [gval, gvalL]
theorem gvalL_succ {l : List Oper} {o : Oper} {n : Nat} : gvalL (o :: l) s (n + 1) = gvalL l s n := by simp [gvalL]
theorem gvalL_zero {l : List Oper} {i : Tmp} {g : Option (Nat × Bool)} : gvalL (⟨some i, op, ty, pos, af, g⟩ :: l) ⟨e, H⟩ 0 = e i := by simp [gvalL]
theorem toList_lit {l : List Oper} : l.toArray.toList = l := Eq.trans rfl rfl
theorem onSome_some {K : Kont} : onSome (some v) K H = K v H := by simp [onSome]

/-- One rule an operation. -/
theorem x_move {K : Kont} {x : Operand} : xop P s (.move x) K = K (s.eval x) s.heap := by simp [xop, eop, qop]
theorem x_assign {K : Kont} {x : Operand} : xop P s (.assign x) K = K (s.eval x) s.heap := by simp [xop, eop, qop]
def qPick (c a b : Value) : Option Value := match c with | .bool t => some (if t then a else b) | _ => none
theorem x_pick {K : Kont} {c a b : Operand} : xop P s (.pick c a b) K = onSome (qPick (s.eval c) (s.eval a) (s.eval b)) K s.heap := Eq.trans rfl rfl
theorem x_load {K : Kont} {t : TypeId} {a : Operand} : xop P s (.load t a) K = onSome (qLoad P t (s.eval a) s.heap) K s.heap := Eq.trans rfl rfl
theorem x_binOp {K : Kont} {op : BinOp} {t u : TypeId} {x y : Operand} : xop P s (.binOp op t x y u) K = onSome (qBin P op t (s.eval x) (s.eval y)) K s.heap := Eq.trans rfl rfl
theorem x_unOp {K : Kont} {op : UnOp} {t : TypeId} {x : Operand} : xop P s (.unOp op t x) K = onSome (qUn op (s.eval x)) K s.heap := Eq.trans rfl rfl
theorem x_slice {K : Kont} {t : TypeId} {x : Operand} {lo hi mx : Option Operand} : xop P s (.slice t x lo hi mx) K = onSome (qSlice P t (s.eval x) (lo.map s.eval) (hi.map s.eval) (mx.map s.eval)) K s.heap := Eq.trans rfl rfl
theorem x_fieldAddr {K : Kont} {t : TypeId} {x : Operand} {f : Nat} : xop P s (.fieldAddr t x f) K = onSome (qFieldAddr P t (s.eval x) f) K s.heap := Eq.trans rfl rfl
theorem x_field {K : Kont} {t : TypeId} {x : Operand} {f : Nat} : xop P s (.field t x f) K = onSome (qField P t (s.eval x) f) K s.heap := Eq.trans rfl rfl
theorem x_indexAddr {K : Kont} {t : TypeId} {x i : Operand} : xop P s (.indexAddr t x i) K = onSome (qIndexAddr P t (s.eval x) (s.eval i)) K s.heap := Eq.trans rfl rfl
theorem x_index {K : Kont} {t : TypeId} {x i : Operand} : xop P s (.index t x i) K = onSome (qIndex P t (s.eval x) (s.eval i)) K s.heap := Eq.trans rfl rfl
theorem x_extract {K : Kont} {x : Operand} {i : Nat} : xop P s (.extract x i) K = onSome (qExtract (s.eval x) i) K s.heap := Eq.trans rfl rfl
theorem x_build {K : Kont} {t : TypeId} {ps : Array (Nat × Operand)} : xop P s (.build t ps) K = onSome (qBuild P t (ps.toList.map fun p => (p.1, s.eval p.2))) K s.heap := Eq.trans rfl rfl
def nilK (v : Value) (K : Kont) (H : Heap) : Prop := onSome (match v with | .pointer (some a) => some (.pointer (some a)) | _ => none) K H
theorem x_nilCheck {K : Kont} {x : Operand} : xop P s (.nilCheck x) K = nilK (s.eval x) K s.heap := Eq.trans rfl rfl
theorem nilK_some {K : Kont} {a : Addr} : nilK (.pointer (some a)) K H = K (.pointer (some a)) H := by simp [nilK, onSome]
def qConvU (P : Program) (a b : Und) (x : Value) (H : Heap) : Option Value :=
  match a, b, x with
  | .int _, .int k, .int _ n => some (.int k (k.wrap n))
  | .str, .str, .string b => some (.string b)
  | .slice e, .str, .slice none _ _ => match und P e with
    | .int .u8 => some (.string (strOfNs []))
    | _ => none
  | .slice e, .str, .slice (some ⟨b, o, none⟩) n _ => match und P e with
    | .int .u8 => match rdN H b o n with
      | some cs => (byteNs cs).map fun ns => .string (strOfNs ns)
      | none => none
    | _ => none
  | .slice e, .str, .slice (some ⟨_, _, some _⟩) 0 _ => match und P e with
    | .int .u8 => some (.string (strOfNs []))
    | _ => none
  | _, _, _ => none
def convK (P : Program) (a b : Und) (x : Value) (H : Heap) (K : Kont) : Prop :=
  match a, b, x with
  | .str, .slice e, .string s => und P e = .int .u8 ∧ eStrBytes s H K
  | a, b, x => onSome (qConvU P a b x H) K H
/-- what a conversion is, told by the two types as well -/
def convS (t u : TypeId) (P : Program) (a b : Und) (x : Value) (H : Heap) (K : Kont) : Prop :=
  match a, b, x with
  | .slice _, .slice e, .slice c n m => eConvB P t u e (.slice c n m) H K
  | a, b, x => convK P a b x H K
theorem x_convert {K : Kont} {t u : TypeId} {x : Operand} : xop P s (.convert t u x) K = convS t u P (und P t) (und P u) (s.eval x) s.heap K := by
  have e : qop P s.eval (.convert t u x) s.heap = qConvU P (und P t) (und P u) (s.eval x) s.heap := rfl
  simp only [xop, eop, convS, convK, e]
  generalize und P t = a
  generalize und P u = b
  generalize s.eval x = v
  cases a <;> cases b <;> cases v <;> rfl
theorem convS_int {K : Kont} {t u : TypeId} {a : Und} {k : IntKind} {x : Value} : convS t u P a (.int k) x H K = convK P a (.int k) x H K := by cases a <;> rfl
theorem convS_str {K : Kont} {t u : TypeId} {a : Und} {x : Value} : convS t u P a .str x H K = convK P a .str x H K := by cases a <;> rfl
theorem convS_new {K : Kont} {t u el : TypeId} {x : Value} : convS t u P .str (.slice el) x H K = convK P .str (.slice el) x H K := by cases x <;> rfl
def cvB (g : Option GObj) (b : Nat) (x : Value) (H : Heap) (K : Kont) : Prop :=
  match g with
  | some (.row true off vs _) => K x (upd H b (.row false off vs 0))
  | _ => False
theorem convS_sl {K : Kont} {t u e el : TypeId} {b o n c : Nat} (h : (t == u) = true) (hu : und P el = .int .u8) : convS t u P (.slice e) (.slice el) (.slice (some ⟨b, o, none⟩) n c) H K = cvB (H b) b (.slice (some ⟨b, o, none⟩) n c) H K := by
  simp only [convS, eConvB, h, hu, true_and]
  rfl
theorem cvB_row {K : Kont} {b off room : Nat} {vs : List Value} {x : Value} : cvB (some (.row true off vs room)) b x H K = K x (upd H b (.row false off vs 0)) := Eq.trans rfl rfl
theorem convK_int {K : Kont} {k k' k'' : IntKind} {n : Int} : convK P (.int k) (.int k') (.int k'' n) H K = K (.int k' (k'.wrap n)) H := by simp [convK, qConvU, onSome]
theorem convK_str {K : Kont} {x : ByteArray} : convK P .str .str (.string x) H K = K (.string x) H := by simp [convK, qConvU, onSome]
theorem convK_new {K : Kont} {el : TypeId} {x : ByteArray} : convK P .str (.slice el) (.string x) H K = (und P el = .int .u8 ∧ eStrBytes x H K) := Eq.trans rfl rfl
theorem x_cap {K : Kont} {t : TypeId} {x : Operand} : xop P s (.call ⟨.builtin .cap, #[x], #[t]⟩) K = onSome (qCap P t (s.eval x)) K s.heap := Eq.trans rfl rfl
theorem x_len {K : Kont} {t : TypeId} {x : Operand} : xop P s (.call ⟨.builtin .len, #[x], #[t]⟩) K = onSome (qLen P t (s.eval x) s.heap) K s.heap := Eq.trans rfl rfl
theorem x_min {K : Kont} {ts : Array TypeId} {x y : Operand} : xop P s (.call ⟨.builtin .min, #[x, y], ts⟩) K = onSome (min2 (s.eval x) (s.eval y)) K s.heap := by
  simp only [xop, eop, onSome, qop]
  simp only [List.map, foldO]
  apply propext
  constructor
  · rintro ⟨v, hv, hk⟩
    refine ⟨v, ?_, hk⟩
    cases hm : min2 (s.eval x) (s.eval y) with
    | none => rw [hm] at hv; cases hv
    | some z => rw [hm] at hv; exact hv
  · rintro ⟨v, hv, hk⟩
    refine ⟨v, ?_, hk⟩
    rw [hv]
theorem x_max {K : Kont} {ts : Array TypeId} {x y : Operand} : xop P s (.call ⟨.builtin .max, #[x, y], ts⟩) K = onSome (max2 (s.eval x) (s.eval y)) K s.heap := by
  simp only [xop, eop, onSome, qop]
  simp only [List.map, foldO]
  apply propext
  constructor
  · rintro ⟨v, hv, hk⟩
    refine ⟨v, ?_, hk⟩
    cases hm : max2 (s.eval x) (s.eval y) with
    | none => rw [hm] at hv; cases hv
    | some z => rw [hm] at hv; exact hv
  · rintro ⟨v, hv, hk⟩
    refine ⟨v, ?_, hk⟩
    rw [hv]
theorem x_store {K : Kont} {t : TypeId} {a x : Operand} : xop P s (.store t a x) K = eStore P t (s.eval a) (s.eval x) s.heap K := Eq.trans rfl rfl
theorem x_box {K : Kont} {t : TypeId} {x : Operand} : xop P s (.box t x) K = eNew (cellsV (s.eval x)) s.heap K := Eq.trans rfl rfl
def allocK (z : Option Value) (H : Heap) (K : Kont) : Prop := match z with | some z => eNew (cellsV z) H K | none => False
theorem x_alloc {K : Kont} {t : TypeId} : xop P s (.alloc t) K = allocK (zeroV P t) s.heap K := Eq.trans rfl rfl
theorem allocK_some {K : Kont} {z : Value} : allocK (some z) H K = eNew (cellsV z) H K := Eq.trans rfl rfl
theorem x_makeSlice {K : Kont} {t : TypeId} {l c : Operand} : xop P s (.makeSlice t l c) K = eMake P t (s.eval l) (s.eval c) s.heap K := Eq.trans rfl rfl
theorem x_buildSlice {K : Kont} {t : TypeId} {n : Nat} {ps : Array (Nat × Operand)} : xop P s (.buildSlice t n ps) K = eBuildSlice P t n (ps.toList.map fun p => (p.1, s.eval p.2)) s.heap K := Eq.trans rfl rfl
theorem x_append {K : Kont} {t u : TypeId} {x y : Operand} : xop P s (.call ⟨.builtin .append, #[x, y], #[t, u]⟩) K = eApp P t u (s.eval x) (s.eval y) s.heap K := Eq.trans rfl rfl
theorem x_copy {K : Kont} {t u : TypeId} {x y : Operand} : xop P s (.call ⟨.builtin .copy, #[x, y], #[t, u]⟩) K = eCopy P t u (s.eval x) (s.eval y) s.heap K := Eq.trans rfl rfl
theorem x_clear {K : Kont} {t : TypeId} {x : Operand} : xop P s (.call ⟨.builtin .clear, #[x], #[t]⟩) K = eClear P t (s.eval x) s.heap K := Eq.trans rfl rfl
theorem x_delete {K : Kont} {t u : TypeId} {x k : Operand} : xop P s (.call ⟨.builtin .delete, #[x, k], #[t, u]⟩) K = eDelete P t (s.eval x) (s.eval k) s.heap K := Eq.trans rfl rfl
theorem x_call {K : Kont} {g : FuncId} {args : Array Operand} {ts : Array TypeId} : xop P s (.call ⟨.value (.func g), args, ts⟩) K = callX (callable P g) P g (args.map s.eval) s.heap K := by
  simp only [xop, eop, St.eval]
  simp
theorem callX_true {K : Kont} {g : FuncId} {args : Array Value} {H : Heap} : callX true P g args H K = ECalls P g args H K := Eq.trans rfl rfl
theorem callX_false {K : Kont} {g : FuncId} {args : Array Value} {H : Heap} : callX false P g args H K = eExt P g args H K := Eq.trans rfl rfl
theorem ext_intro {K : Kont} {g : FuncId} {args : Array Value} {H : Heap} {v : Value} (h : ∀ w, (callFunc g args).run P w = .ok (.value v) w) (hk : K v H) : eExt P g args H K := ⟨v, hk, h⟩

theorem x_makeMap {K : Kont} {t : TypeId} : xop P s (.makeMap t none) K = (eMakeMap s.heap K ∨ eMakeMapG s.heap K) := Eq.trans rfl rfl
theorem x_lookup {K : Kont} {t : TypeId} {x k : Operand} {ok : Bool} : xop P s (.lookup t x k ok) K = onSome (qLook P t (s.eval x) (s.eval k) ok s.heap) K s.heap := Eq.trans rfl rfl
theorem x_mapUpdate {K : Kont} {t : TypeId} {m k x : Operand} : xop P s (.mapUpdate t m k x) K = eMapSet P t (s.eval m) (s.eval k) (s.eval x) s.heap K := Eq.trans rfl rfl
theorem x_range {K : Kont} {t : TypeId} {x : Operand} : xop P s (.range t x) K = eRange P t (s.eval x) s.heap K := Eq.trans rfl rfl
theorem x_next {K : Kont} {it : Operand} : xop P s (.next it false) K = eNext (s.eval it) s.heap K := Eq.trans rfl rfl
theorem x_entry {K : Kont} {it : Operand} : xop P s (.entry it) K = onSome (qEntry (s.eval it) s.heap) K s.heap := Eq.trans rfl rfl

/-- Control. -/
theorem w_skip {K : Post} : ewp P .skip K s = K .normal s := Eq.trans rfl rfl
theorem w_region {K : Post} {id : Nat} : ewp P (.region id ops false) K s = eops P ops ops.toList (K .normal) s := by simp [ewp]
theorem w_draw {K : Post} {id : Nat} (hm : P.follows .mixedOrders = true) (hd : drawOk P ops = true) (h : eops P ops ops.toList (K .normal) s) : ewp P (.region id ops true) K s := by simp [ewp, hm, hd, h]
theorem w_drawQ {K : Post} {id : Nat} (hm : P.follows .mixedOrders = true) (hB : Region.lexB .any ops = true) (h : eopsQ P ops ops.toList (K .normal) s) : ewp P (.region id ops true) K s := by simp [ewp, hm, hB, h]
theorem w_plan {K : Post} {id : Nat} (hm : P.follows .mixedOrders = true) (t : Plan) (hp : planOf P ops = t) (h : eopsP P ops t (K .normal) s) : ewp P (.region id ops true) K s := by simp [ewp, hm, hp, h]
def runO (P : Program) (ops : Array Oper) (o : Option Oper) (K : St → Prop) (s : St) : Prop :=
  match o with
  | some o => eops P ops [o] K s
  | none => False
def opsP (l : List Nat) (t : Plan) : Plan := l.foldr .op t
theorem opsP_nil {t : Plan} : opsP [] t = t := Eq.trans rfl rfl
theorem opsP_cons {i : Nat} {l : List Nat} {t : Plan} : opsP (i :: l) t = .op i (opsP l t) := Eq.trans rfl rfl
theorem eopsP_done {K : St → Prop} : eopsP P ops .done K s = K s := Eq.trans rfl rfl
theorem eopsP_op {K : St → Prop} {i : Nat} {t : Plan} : eopsP P ops (.op i t) K s = runO P ops ops[i]? (eopsP P ops t K) s := by
  unfold eopsP runI runO
  cases ops[i]? with
  | none => rfl
  | some o => rfl
theorem eopsP_both {K : St → Prop} {a b : Plan} : eopsP P ops (.both a b) K s = (eopsP P ops a K s ∧ eopsP P ops b K s) := Eq.trans rfl rfl
theorem runO_some {K : St → Prop} {o : Oper} : runO P ops (some o) K s = eops P ops [o] K s := Eq.trans rfl rfl
theorem w_seq {K : Post} {a b : Code} : ewp P (.seq a b) K s = ewp P a (Kseq (ewp P b K) K) s := Eq.trans rfl rfl
theorem w_cond {K : Post} {c : Operand} {a b : Code} : ewp P (.cond c a b) K s = condK (s.eval c) P a b K s := Eq.trans rfl rfl
theorem condK_true {K : Post} {a b : Code} : condK (.bool true) P a b K s = ewp P a K s := by simp [condK]
theorem condK_false {K : Post} {a b : Code} : condK (.bool false) P a b K s = ewp P b K s := by simp [condK]
theorem condK_split {K : Post} {a b : Code} {t : Bool} (h1 : t = true → ewp P a K s) (h2 : t = false → ewp P b K s) : condK (.bool t) P a b K s := ⟨h1, h2⟩
theorem w_block {K : Post} {id : Nat} {b : Code} : ewp P (.block id b) K s = ewp P b (Kblock id K) s := Eq.trans rfl rfl
theorem w_exit {K : Post} {id : Nat} : ewp P (.exit id) K s = K (.exit id) s := Eq.trans rfl rfl
theorem w_ret {K : Post} : ewp P .ret K s = K .ret s := Eq.trans rfl rfl
theorem w_loop {K : Post} {b : Code} (I : St → Prop) (μ : St → Nat) (h0 : I s) (h : ∀ s1, I s1 → ewp P b (Kloop I μ (μ s1) K) s1) : ewp P (.loop b) K s := ⟨I, μ, h0, h⟩
theorem kseq_normal {f : St → Prop} {K : Post} : Kseq f K .normal s = f s := Eq.trans rfl rfl
theorem kseq_exit {f : St → Prop} {K : Post} {i : Nat} : Kseq f K (.exit i) s = K (.exit i) s := Eq.trans rfl rfl
theorem kseq_ret {f : St → Prop} {K : Post} : Kseq f K .ret s = K .ret s := Eq.trans rfl rfl
theorem kblock_exit {K : Post} {i id : Nat} : Kblock id K (.exit i) s = if i = id then K .normal s else K (.exit i) s := Eq.trans rfl rfl
theorem kblock_normal {K : Post} {id : Nat} : Kblock id K .normal s = K .normal s := Eq.trans rfl rfl
theorem kblock_ret {K : Post} {id : Nat} : Kblock id K .ret s = K .ret s := Eq.trans rfl rfl
theorem kloop_normal {I : St → Prop} {μ : St → Nat} {n : Nat} {K : Post} : Kloop I μ n K .normal s = ∃ H, Heap.le H s.heap ∧ I ⟨s.env, H⟩ ∧ μ ⟨s.env, H⟩ < n := Eq.trans rfl rfl
theorem kloop_exit {I : St → Prop} {μ : St → Nat} {n i : Nat} {K : Post} : Kloop I μ n K (.exit i) s = K (.exit i) s := Eq.trans rfl rfl
theorem kloop_ret {I : St → Prop} {μ : St → Nat} {n : Nat} {K : Post} : Kloop I μ n K .ret s = K .ret s := Eq.trans rfl rfl
theorem kret_ret {rs : List ResultVar} {K : Kont} : Kret P rs K .ret s = ∃ vs, resVs P s rs = some vs ∧ ∃ H, Heap.le H s.heap ∧ K (tupleV vs) H := Eq.trans rfl rfl
theorem kret_normal {rs : List ResultVar} {K : Kont} : Kret P rs K .normal s = ∃ vs, resVs P s rs = some vs ∧ ∃ H, Heap.le H s.heap ∧ K (tupleV vs) H := Eq.trans rfl rfl

/-- States. -/
theorem put_some {i : Tmp} : St.put ⟨e, H⟩ (some i) v s.heap = ⟨setE e i v, s.heap⟩ := Eq.trans rfl rfl
theorem put_someH {i : Tmp} {H' : Heap} : St.put ⟨e, H⟩ (some i) v H' = ⟨setE e i v, H'⟩ := Eq.trans rfl rfl
theorem put_noneH {H' : Heap} : St.put ⟨e, H⟩ none v H' = ⟨e, H'⟩ := Eq.trans rfl rfl
theorem eval_tmp {i : Tmp} : St.eval ⟨e, H⟩ (.tmp i) = e i := Eq.trans rfl rfl
theorem eval_const : St.eval s (.const v) = v := Eq.trans rfl rfl
theorem heap_mk : (⟨e, H⟩ : St).heap = H := Eq.trans rfl rfl
theorem env_mk : (⟨e, H⟩ : St).env = e := Eq.trans rfl rfl
theorem setE_app {i d : Nat} : setE e d v i = if i = d then v else e i := Eq.trans rfl rfl
theorem envL_zero {a : Value} {l : List Value} : envL (a :: l) 0 = a := Eq.trans rfl rfl
theorem envL_succ {a : Value} {l : List Value} {n : Nat} : envL (a :: l) (n + 1) = envL l n := by simp [envL]
theorem envL_nil {i : Nat} : envL [] i = undef := by simp [envL]
end

/-! ### Results -/
section
variable {P : Program} {s : St} {e : Nat → Value} {H : Heap}
theorem resVs_nil : resVs P s [] = some [] := Eq.trans rfl rfl
theorem resVs_tmp {i : Tmp} {rs : List ResultVar} : resVs P ⟨e, H⟩ (.tmp i :: rs) = (resVs P ⟨e, H⟩ rs).map (e i :: ·) := by
  simp only [resVs, resV]; cases resVs P ⟨e, H⟩ rs <;> rfl
def cellR (P : Program) (v : Value) (t : TypeId) (H : Heap) : Option Value := match v with | .pointer (some ⟨b, o, none⟩) => qLoad P t (.pointer (some ⟨b, o, none⟩)) H | _ => none
theorem cellR_ptr {b o : Nat} {t : TypeId} : cellR P (.pointer (some ⟨b, o, none⟩)) t H = qLoad P t (.pointer (some ⟨b, o, none⟩)) H := Eq.trans rfl rfl
theorem resVs_cell {i : Tmp} {t : TypeId} {rs : List ResultVar} : resVs P ⟨e, H⟩ (.cell i t :: rs) = (cellR P (e i) t H).bind fun v => (resVs P ⟨e, H⟩ rs).map (v :: ·) := by
  simp only [resVs, resV, cellR]
  cases e i <;> try rfl
  rename_i a
  cases a with
  | none => rfl
  | some a =>
    obtain ⟨b, o, sp⟩ := a
    cases sp with
    | some x => rfl
    | none => simp only; cases qLoad P t (.pointer (some ⟨b, o, none⟩)) H <;> cases resVs P ⟨e, H⟩ rs <;> rfl
theorem tupleV_one {v : Value} : tupleV [v] = v := Eq.trans rfl rfl
theorem tupleV_two {v u : Value} {l : List Value} : tupleV (v :: u :: l) = .tuple (v :: u :: l).toArray := Eq.trans rfl rfl
theorem tupleV_none : tupleV [] = .tuple #[] := Eq.trans rfl rfl
end

/-! ### Numbers -/
section
variable {P : Program} {t : TypeId} {k : IntKind} {a b : Int}
theorem qPick_bool {t : Bool} {x y : Value} : qPick (.bool t) x y = some (if t then x else y) := Eq.trans rfl rfl
theorem b_add : qBin P .add t (.int k a) (.int k b) = some (.int k (k.wrap (a + b))) := by simp [qBin, qInt]
theorem b_sub : qBin P .sub t (.int k a) (.int k b) = some (.int k (k.wrap (a - b))) := by simp [qBin, qInt]
theorem b_mul : qBin P .mul t (.int k a) (.int k b) = some (.int k (k.wrap (a * b))) := by simp [qBin, qInt]
theorem b_quo (h : b ≠ 0) : qBin P .quo t (.int k a) (.int k b) = some (.int k (k.wrap (a.tdiv b))) := by simp [qBin, qInt, h]
theorem b_rem (h : b ≠ 0) : qBin P .rem t (.int k a) (.int k b) = some (.int k (a.tmod b)) := by simp [qBin, qInt, h]
def andK (k : IntKind) (a b : Int) : Int := k.wrap (BitVec.ofInt k.bits a &&& BitVec.ofInt k.bits b).toNat
def orK (k : IntKind) (a b : Int) : Int := k.wrap (BitVec.ofInt k.bits a ||| BitVec.ofInt k.bits b).toNat
def xorK (k : IntKind) (a b : Int) : Int := k.wrap (BitVec.ofInt k.bits a ^^^ BitVec.ofInt k.bits b).toNat
def andNotK (k : IntKind) (a b : Int) : Int := k.wrap (BitVec.ofInt k.bits a &&& ~~~ BitVec.ofInt k.bits b).toNat
def shlK (k : IntKind) (a b : Int) : Int := k.wrap (a * 2 ^ (min b.toNat k.bits))
def shrK (k : IntKind) (a b : Int) : Int := a.fdiv (2 ^ (min b.toNat k.bits))
theorem b_and : qBin P .and t (.int k a) (.int k b) = some (.int k (andK k a b)) := by simp [qBin, qInt, andK]
theorem b_or : qBin P .or t (.int k a) (.int k b) = some (.int k (orK k a b)) := by simp [qBin, qInt, orK]
theorem b_xor : qBin P .xor t (.int k a) (.int k b) = some (.int k (xorK k a b)) := by simp [qBin, qInt, xorK]
theorem b_andNot : qBin P .andNot t (.int k a) (.int k b) = some (.int k (andNotK k a b)) := by simp [qBin, qInt, andNotK]
theorem b_eql : qBin P .eql t (.int k a) (.int k b) = some (.bool (decide (a = b))) := by
  simp only [qBin, qInt, if_true]
  congr 2
theorem b_neq : qBin P .neq t (.int k a) (.int k b) = some (.bool (!decide (a = b))) := by
  simp only [qBin, qInt, if_true]
  congr 2
theorem b_lss : qBin P .lss t (.int k a) (.int k b) = some (.bool (decide (a < b))) := by simp [qBin, qInt]
theorem b_leq : qBin P .leq t (.int k a) (.int k b) = some (.bool (decide (a ≤ b))) := by simp [qBin, qInt]
theorem b_gtr : qBin P .gtr t (.int k a) (.int k b) = some (.bool (decide (b < a))) := by simp [qBin, qInt]
theorem b_geq : qBin P .geq t (.int k a) (.int k b) = some (.bool (decide (b ≤ a))) := by simp [qBin, qInt]
theorem b_shl {k' : IntKind} (h : 0 ≤ b) : qBin P .shl t (.int k a) (.int k' b) = some (.int k (shlK k a b)) := by simp [qBin, h, shlK]
theorem b_shr {k' : IntKind} (h : 0 ≤ b) : qBin P .shr t (.int k a) (.int k' b) = some (.int k (shrK k a b)) := by simp [qBin, h, shrK]
theorem u_neg : qUn .neg (.int k a) = some (.int k (k.wrap (0 - a))) := Eq.trans rfl rfl
theorem u_not {x : Bool} : qUn .not (.bool x) = some (.bool !x) := Eq.trans rfl rfl
theorem u_xor : qUn .xor (.int k a) = some (.int k (xorK k (if k.signed then -1 else k.max) a)) := Eq.trans rfl rfl
theorem wr_i64 (h1 : -9223372036854775808 ≤ a) (h2 : a ≤ 9223372036854775807) : IntKind.i64.wrap a = a := by rw [IntKind.wrap_i64]; omega
theorem wr_u8 (h1 : 0 ≤ a) (h2 : a ≤ 255) : IntKind.u8.wrap a = a := by simp [IntKind.wrap, IntKind.bits, IntKind.signed]; omega
theorem wr_u16 (h1 : 0 ≤ a) (h2 : a ≤ 65535) : IntKind.u16.wrap a = a := by simp [IntKind.wrap, IntKind.bits, IntKind.signed]; omega
theorem wr_u32 (h1 : 0 ≤ a) (h2 : a ≤ 4294967295) : IntKind.u32.wrap a = a := by simp [IntKind.wrap, IntKind.bits, IntKind.signed]; omega
theorem wr_u64 (h1 : 0 ≤ a) (h2 : a ≤ 18446744073709551615) : IntKind.u64.wrap a = a := by simp [IntKind.wrap, IntKind.bits, IntKind.signed]; omega
theorem wr_i32 (h1 : -2147483648 ≤ a) (h2 : a ≤ 2147483647) : IntKind.i32.wrap a = a := by simp [IntKind.wrap, IntKind.bits, IntKind.signed]; omega
theorem wr_i8 (h1 : -128 ≤ a) (h2 : a ≤ 127) : IntKind.i8.wrap a = a := by simp [IntKind.wrap, IntKind.bits, IntKind.signed]; omega
theorem tdiv_nn (h : 0 ≤ a) : a.tdiv b = a / b := Int.tdiv_eq_ediv_of_nonneg h
theorem tmod_nn (h : 0 ≤ a) : a.tmod b = a % b := Int.tmod_eq_emod_of_nonneg h
end

/-! ### What a type is, told ahead -/
section
variable {P : Program} {H : Heap} {n c s : Nat} {t el : TypeId} {k : IntKind} {i : Int} {K : Kont}
def qLenU (P : Program) (u : Und) (x : Value) (H : Heap) : Option Value :=
  match u, x with
  | .str, .string s => some (.int .i64 s.size)
  | .arr n _, _ => some (.int .i64 n)
  | .slice _, .slice _ n _ => some (.int .i64 n)
  | .map _ _, .map none => some (.int .i64 0)
  | .map _ _, .map (some r) => match H r with
    | some (.map es) => some (.int .i64 es.length)
    | _ => none
  | .ptr a, _ => match und P a with
    | .arr n _ => some (.int .i64 n)
    | _ => none
  | _, _ => none
theorem q_len {x : Value} : qLen P t x H = qLenU P (und P t) x H := Eq.trans rfl rfl
def qCapU (u : Und) (x : Value) : Option Value :=
  match u, x with
  | .slice _, .slice _ _ c => some (.int .i64 c)
  | _, _ => none
theorem q_cap {x : Value} : qCap P t x = qCapU (und P t) x := Eq.trans rfl rfl
theorem capU_slice {a : Option Addr} : qCapU (.slice el) (.slice a n c) = some (.int .i64 c) := Eq.trans rfl rfl
theorem lenU_slice {a : Option Addr} : qLenU P (.slice el) (.slice a n c) H = some (.int .i64 n) := Eq.trans rfl rfl
theorem lenU_str {x : ByteArray} : qLenU P .str (.string x) H = some (.int .i64 x.size) := Eq.trans rfl rfl
theorem lenU_arr {x : Value} : qLenU P (.arr n el) x H = some (.int .i64 n) := Eq.trans rfl rfl

def qIxU (P : Program) (u : Und) (x i : Value) : Option Value :=
  match i with
  | .int _ i => match u, x with
    | .arr n e, .pointer (some ⟨b, o, none⟩) => match sz P e with
      | some s => if 0 ≤ i ∧ i < (n : Int) then some (.pointer (some ⟨b, o + i.toNat * s, none⟩)) else none
      | none => none
    | .slice e, .slice a n _ => match sz P e with
      | some s => if (0 ≤ i ∧ i < (n : Int)) ∧ a.isSome = true then some (.pointer (a.map (·.add (i.toNat * s)))) else none
      | none => none
    | _, _ => none
  | _ => none
theorem q_ix {x i : Value} : qIndexAddr P t x i = qIxU P (und P t) x i := Eq.trans rfl rfl
def ixS (z : Option Nat) (a : Option Addr) (n : Nat) (i : Int) : Option Value :=
  match z with
  | some s => if (0 ≤ i ∧ i < (n : Int)) ∧ a.isSome = true then some (.pointer (a.map (·.add (i.toNat * s)))) else none
  | none => none
theorem ixU_slice {a : Option Addr} : qIxU P (.slice el) (.slice a n c) (.int k i) = ixS (sz P el) a n i := Eq.trans rfl rfl
theorem ixS_in {a : Option Addr} (h0 : 0 ≤ i) (h1 : i < (n : Int)) (ha : a.isSome = true) : ixS (some s) a n i = some (.pointer (a.map (·.add (i.toNat * s)))) := by simp [ixS, h0, h1, ha]
def ixA (z : Option Nat) (n b o : Nat) (i : Int) : Option Value :=
  match z with
  | some s => if 0 ≤ i ∧ i < (n : Int) then some (.pointer (some ⟨b, o + i.toNat * s, none⟩)) else none
  | none => none
theorem ixU_arr {b o : Nat} : qIxU P (.arr n el) (.pointer (some ⟨b, o, none⟩)) (.int k i) = ixA (sz P el) n b o i := Eq.trans rfl rfl
theorem ixA_in {b o : Nat} (h0 : 0 ≤ i) (h1 : i < (n : Int)) : ixA (some s) n b o i = some (.pointer (some ⟨b, o + i.toNat * s, none⟩)) := by simp [ixA, h0, h1]

def qIdU (P : Program) (u : Und) (x i : Value) : Option Value :=
  match i with
  | .int _ i => match u, x with
    | .arr n e, .agg cs => match sz P e with
      | some s => if 0 ≤ i ∧ i < (n : Int) then partL P e cs.toList (i.toNat * s) else none
      | none => none
    | .str, .string s => if 0 ≤ i then (s.data.toList[i.toNat]?).map fun c => .int .u8 c.toNat else none
    | _, _ => none
  | _ => none
theorem q_id {x i : Value} : qIndex P t x i = qIdU P (und P t) x i := Eq.trans rfl rfl
theorem idU_str {x : ByteArray} (h0 : 0 ≤ i) : qIdU P .str (.string x) (.int k i) = (x.data.toList[i.toNat]?).map u8V := by
  simp only [qIdU, h0, if_true]; rfl
def idA (P : Program) (z : Option Nat) (e : TypeId) (n : Nat) (cs : List Value) (i : Int) : Option Value :=
  match z with
  | some s => if 0 ≤ i ∧ i < (n : Int) then partL P e cs (i.toNat * s) else none
  | none => none
theorem idU_arr {cs : List Value} : qIdU P (.arr n el) (.agg cs.toArray) (.int k i) = idA P (sz P el) el n cs i := Eq.trans rfl rfl
theorem idA_in {cs : List Value} (h0 : 0 ≤ i) (h1 : i < (n : Int)) : idA P (some s) el n cs i = partL P el cs (i.toNat * s) := by simp [idA, h0, h1]

def partU (z : Option (Bool × Nat)) (cs : List Value) (off : Nat) : Option Value :=
  match z with
  | some (true, n) => some (.agg ((cs.drop off).take n).toArray)
  | some (false, _) => cs[off]?
  | none => none
theorem q_part {cs : List Value} {off : Nat} : partL P t cs off = partU (tk P t) cs off := Eq.trans rfl rfl
theorem partU_agg {cs : List Value} {off : Nat} : partU (some (true, n)) cs off = some (.agg ((cs.drop off).take n).toArray) := Eq.trans rfl rfl
theorem partU_one {cs : List Value} {off : Nat} : partU (some (false, n)) cs off = cs[off]? := Eq.trans rfl rfl

def fieldU (P : Program) (z : Option (Nat × TypeId)) (cs : List Value) : Option Value :=
  match z with
  | some (off, t) => partL P t cs off
  | none => none
theorem q_field {f : Nat} {cs : List Value} : qField P t (.agg cs.toArray) f = fieldU P (fieldT P t f) cs := by
  simp only [qField, fieldU]; cases fieldT P t f <;> rfl
theorem fieldU_some {off : Nat} {cs : List Value} : fieldU P (some (off, t)) cs = partL P t cs off := Eq.trans rfl rfl
def faU (P : Program) (z : Option (Nat × TypeId)) (b o : Nat) : Option Value :=
  match z with
  | some (off, t) => match sz P t with
    | some (_ + 1) => some (.pointer (some ⟨b, o + off, none⟩))
    | _ => none
  | none => none
theorem q_fieldAddr {f b o : Nat} : qFieldAddr P t (.pointer (some ⟨b, o, none⟩)) f = faU P (fieldT P t f) b o := by
  simp only [qFieldAddr, faU]; cases fieldT P t f <;> rfl
def faS (z : Option Nat) (b o : Nat) : Option Value :=
  match z with
  | some (_ + 1) => some (.pointer (some ⟨b, o, none⟩))
  | _ => none
theorem faU_some {off b o : Nat} : faU P (some (off, t)) b o = faS (sz P t) b (o + off) := Eq.trans rfl rfl
theorem faS_some {m b o : Nat} : faS (some (m + 1)) b o = some (.pointer (some ⟨b, o, none⟩)) := Eq.trans rfl rfl

def loadU (z : Option (Bool × Nat)) (a : Option Addr) (H : Heap) : Option Value :=
  match z with
  | some (true, n) => (atN H a 0 n).map fun xs => .agg xs.toArray
  | some (false, _) => at1 H a 0
  | none => none
theorem q_load {a : Option Addr} : qLoad P t (.pointer a) H = loadU (tk P t) a H := Eq.trans rfl rfl
theorem loadU_one {a : Option Addr} : loadU (some (false, n)) a H = at1 H a 0 := Eq.trans rfl rfl
theorem loadU_agg {a : Option Addr} : loadU (some (true, n)) a H = (atN H a 0 n).map fun xs => .agg xs.toArray := Eq.trans rfl rfl
def rd1U (g : Option GObj) (o : Nat) : Option Value :=
  match g with
  | some (.row _ off vs _) => if off ≤ o then vs[o - off]? else none
  | _ => none
def rdNU (g : Option GObj) (o n : Nat) : Option (List Value) :=
  if n = 0 then some [] else
  match g with
  | some (.row _ off vs _) => if off ≤ o ∧ o - off + n ≤ vs.length then some ((vs.drop (o - off)).take n) else none
  | _ => none
theorem at1_lit {b o j : Nat} : at1 H (some ⟨b, o, none⟩) j = rd1U (H b) (o + j) := Eq.trans rfl rfl
theorem atN_lit {b o j m : Nat} : atN H (some ⟨b, o, none⟩) j m = rdNU (H b) (o + j) m := Eq.trans rfl rfl
theorem rd1U_row {own : Bool} {off o room : Nat} {vs : List Value} (h : off ≤ o) : rd1U (some (.row own off vs room)) o = vs[o - off]? := by simp [rd1U, h]
theorem rdNU_row {own : Bool} {off o m room : Nat} {vs : List Value} (h : off ≤ o) (h2 : o - off + m ≤ vs.length) : rdNU (some (.row own off vs room)) o m = some ((vs.drop (o - off)).take m) := by
  by_cases h0 : m = 0
  · subst h0; simp [rdNU]
  · simp [rdNU, h, h2, h0]
theorem rdNU_all {own : Bool} {m room : Nat} {vs : List Value} (h2 : vs.length = m) : rdNU (some (.row own 0 vs room)) 0 m = some vs := by
  by_cases h0 : m = 0
  · subst h0; simp [rdNU, List.length_eq_zero_iff.1 h2]
  · simp [rdNU, ← h2]

def storeU (z : Option Nat) (g : Option GObj) (b o : Nat) (v : Value) (H : Heap) (K : Kont) : Prop :=
  match z, g with
  | some n, some (.row true off vs room) => ((cellsV v).length = n ∧ (cellsV v).all (·.oneCell') = true ∧ off ≤ o ∧ o - off + n ≤ vs.length) ∧
      K undef (upd H b (.row true off (splice vs (o - off) (cellsV v)) room))
  | _, _ => False
theorem e_store {b o : Nat} {v : Value} : eStore P t (.pointer (some ⟨b, o, none⟩)) v H K = storeU (sz P t) (H b) b o v H K := by
  simp only [eStore, storeU]
  split
  · rename_i h1 h2; rw [h1, h2]
  · rename_i h; split
    · rename_i e1 e2; exact absurd e2 (h _ _ _ _ e1)
    · rfl
theorem splice_one {vs : List Value} {j : Nat} {v : Value} (h : j < vs.length) : splice vs j [v] = vs.set j v := by
  unfold splice
  rw [List.set_eq_take_append_cons_drop, if_pos h]
  simp
theorem storeU_one {off room b o : Nat} {vs : List Value} {v : Value} (h1 : off ≤ o) (h2 : o - off < vs.length) (hv : v.oneCell' = true) : storeU (some 1) (some (.row true off vs room)) b o v H K = K undef (upd H b (.row true off (vs.set (o - off) v) room)) := by
  have hc : cellsV v = [v] := by cases v <;> first | rfl | simp [Value.oneCell'] at hv
  simp only [storeU, hc, splice_one h2]
  simp [hv, h1]
  omega
theorem storeU_agg {off room b o : Nat} {vs cs : List Value} (h1 : off ≤ o) (h2 : o - off + n ≤ vs.length) (hl : cs.length = n) (hc : cs.all (·.oneCell') = true) : storeU (some n) (some (.row true off vs room)) b o (.agg cs.toArray) H K = K undef (upd H b (.row true off (splice vs (o - off) cs) room)) := by
  simp only [storeU, cellsV]
  simp [hl, h1, h2]
  intro _
  exact fun x hx => (List.all_eq_true.1 hc) x hx

def slU (z : Option Nat) (r : Option (Nat × Nat × Nat)) (a : Option Addr) : Option Value :=
  match z, r with
  | some s, some (l, h, m) => some (.slice (if m = l then a else a.map (·.add (l * s))) (h - l) (m - l))
  | _, _ => none
def slSU (r : Option (Nat × Nat × Nat)) (x : ByteArray) : Option Value :=
  match r with
  | some (l, h, _) => some (.string (x.extract l h))
  | none => none
def slAU (z : Option Nat) (r : Option (Nat × Nat × Nat)) (b o : Nat) : Option Value :=
  match z, r with
  | some s, some (l, h, m) => some (.slice (some (if m = l then ⟨b, o, none⟩ else ⟨b, o + l * s, none⟩)) (h - l) (m - l))
  | _, _ => none
def qSlU (P : Program) (u : Und) (x : Value) (lo hi mx : Option Value) : Option Value :=
  match u, x with
  | .str, .string s => match mx with
    | none => slSU (bounds3 lo hi none s.size s.size) s
    | _ => none
  | .slice e, .slice a len cap => slU (sz P e) (bounds3 lo hi mx len cap) a
  | .arr n e, .pointer (some ⟨b, o, none⟩) => slAU (sz P e) (bounds3 lo hi mx n n) b o
  | _, _ => none
theorem q_slice {x : Value} {lo hi mx : Option Value} : qSlice P t x lo hi mx = qSlU P (und P t) x lo hi mx := by
  unfold qSlice qSlU
  generalize und P t = u
  cases u <;> cases x <;> try rfl
  case str.string x =>
    cases mx with
    | none =>
      simp only [slSU]
      cases bounds3 lo hi none x.size x.size <;> rfl
    | some m => rfl
  case arr.pointer n e a =>
    cases a with
    | none => rfl
    | some a =>
      obtain ⟨b, o, sp⟩ := a
      cases sp with
      | some x => rfl
      | none =>
        simp only [slAU]
        cases sz P e <;> cases bounds3 lo hi mx n n <;> rfl
theorem slU_slice {lo hi mx : Option Value} {a : Option Addr} {len cap : Nat} : qSlU P (.slice el) (.slice a len cap) lo hi mx = slU (sz P el) (bounds3 lo hi mx len cap) a := Eq.trans rfl rfl
theorem slU_str {lo hi : Option Value} {x : ByteArray} : qSlU P .str (.string x) lo hi none = slSU (bounds3 lo hi none x.size x.size) x := Eq.trans rfl rfl
theorem slU_arr {lo hi mx : Option Value} {b o : Nat} : qSlU P (.arr n el) (.pointer (some ⟨b, o, none⟩)) lo hi mx = slAU (sz P el) (bounds3 lo hi mx n n) b o := Eq.trans rfl rfl
theorem slU_some {a : Option Addr} {l h m : Nat} : slU (some s) (some (l, h, m)) a = some (.slice (if m = l then a else a.map (·.add (l * s))) (h - l) (m - l)) := Eq.trans rfl rfl
theorem slSU_some {x : ByteArray} {l h m : Nat} : slSU (some (l, h, m)) x = some (.string (x.extract l h)) := Eq.trans rfl rfl
theorem slAU_some {b o l h m : Nat} : slAU (some s) (some (l, h, m)) b o = some (.slice (some (if m = l then ⟨b, o, none⟩ else ⟨b, o + l * s, none⟩)) (h - l) (m - l)) := Eq.trans rfl rfl
section
variable {k1 k2 k3 : IntKind} {l h m : Int} {len cap : Nat}
theorem bd_lh (h0 : 0 ≤ l) (h1 : l ≤ h) (h2 : h ≤ (cap : Int)) : bounds3 (some (.int k1 l)) (some (.int k2 h)) none len cap = some (l.toNat, h.toNat, cap) := by
  simp [bounds3, getI, h0, h1, h2]
theorem bd_l (h0 : 0 ≤ l) (h1 : l ≤ (len : Int)) (h2 : len ≤ cap) : bounds3 (some (.int k1 l)) none none len cap = some (l.toNat, len, cap) := by
  simp [bounds3, getI, h0, h1, h2]
theorem bd_h (h0 : 0 ≤ h) (h2 : h ≤ (cap : Int)) : bounds3 none (some (.int k2 h)) none len cap = some (0, h.toNat, cap) := by
  simp [bounds3, getI, h0, h2]
theorem bd_n (h2 : len ≤ cap) : bounds3 none none none len cap = some (0, len, cap) := by
  simp [bounds3, getI, h2]
theorem bd_lhm (h0 : 0 ≤ l) (h1 : l ≤ h) (h2 : h ≤ m) (h3 : m ≤ (cap : Int)) : bounds3 (some (.int k1 l)) (some (.int k2 h)) (some (.int k3 m)) len cap = some (l.toNat, h.toNat, m.toNat) := by
  simp [bounds3, getI, h0, h1, h2, h3]
theorem bd_hm (h0 : 0 ≤ h) (h2 : h ≤ m) (h3 : m ≤ (cap : Int)) : bounds3 none (some (.int k2 h)) (some (.int k3 m)) len cap = some (0, h.toNat, m.toNat) := by
  simp [bounds3, getI, h0, h2, h3]
end

def nilU (u : Und) (x y : Value) : Option Bool :=
  match u, x, y with
  | .bool, .bool a, .bool b => some (a == b)
  | .ptr _, .pointer none, .pointer b => some b.isNone
  | .ptr _, .pointer (some _), .pointer none => some false
  | .slice _, .slice none _ _, .slice b _ _ => some b.isNone
  | .slice _, .slice (some _) _ _, .slice none _ _ => some false
  | .map _ _, .map none, .map b => some b.isNone
  | .map _ _, .map (some _), .map none => some false
  | _, _, _ => none
theorem q_nil {x y : Value} : qNil P t x y = nilU (und P t) x y := Eq.trans rfl rfl
theorem nilU_bool {x y : Bool} : nilU .bool (.bool x) (.bool y) = some (x == y) := Eq.trans rfl rfl
theorem nilU_ptr {a : Option Addr} : nilU (.ptr el) (.pointer a) (.pointer none) = some a.isNone := by cases a <;> rfl
theorem nilU_slice {a : Option Addr} {n' c' : Nat} : nilU (.slice el) (.slice a n c) (.slice none n' c') = some a.isNone := by cases a <;> rfl
theorem b_eqlB {x y : Bool} : qBin P .eql t (.bool x) (.bool y) = (qNil P t (.bool x) (.bool y)).map fun r => .bool r := Eq.trans rfl rfl
theorem b_neqB {x y : Bool} : qBin P .neq t (.bool x) (.bool y) = (qNil P t (.bool x) (.bool y)).map fun r => .bool !r := Eq.trans rfl rfl
theorem b_eqlP {x y : Option Addr} : qBin P .eql t (.pointer x) (.pointer y) = (qNil P t (.pointer x) (.pointer y)).map fun r => .bool r := Eq.trans rfl rfl
theorem b_neqP {x y : Option Addr} : qBin P .neq t (.pointer x) (.pointer y) = (qNil P t (.pointer x) (.pointer y)).map fun r => .bool !r := Eq.trans rfl rfl
theorem b_eqlS {x y : Option Addr} {n' c' : Nat} : qBin P .eql t (.slice x n c) (.slice y n' c') = (qNil P t (.slice x n c) (.slice y n' c')).map fun r => .bool r := Eq.trans rfl rfl
theorem b_neqS {x y : Option Addr} {n' c' : Nat} : qBin P .neq t (.slice x n c) (.slice y n' c') = (qNil P t (.slice x n c) (.slice y n' c')).map fun r => .bool !r := Eq.trans rfl rfl
def eqA (ks : Option (List SK)) (xs ys : List Value) : Option Bool := match ks with | some ks => eqCells ks xs ys | none => none
theorem b_eqlA {xs ys : List Value} : qBin P .eql t (.agg xs.toArray) (.agg ys.toArray) = (eqA (kinds P t) xs ys).map fun r => .bool r := Eq.trans rfl rfl
theorem b_neqA {xs ys : List Value} : qBin P .neq t (.agg xs.toArray) (.agg ys.toArray) = (eqA (kinds P t) xs ys).map fun r => .bool !r := Eq.trans rfl rfl
theorem eqA_some {ks : List SK} {xs ys : List Value} : eqA (some ks) xs ys = eqCells ks xs ys := Eq.trans rfl rfl
theorem eqC_nil : eqCells [] [] [] = some true := Eq.trans rfl rfl
theorem eqC_int {ks : List SK} {xs ys : List Value} {x y : Int} : eqCells (.int :: ks) (.int k x :: xs) (.int k y :: ys) = (eqCells ks xs ys).map (decide (x = y) && ·) := by
  simp only [eqCells, if_true]; rfl
theorem eqC_bool {ks : List SK} {xs ys : List Value} {x y : Bool} : eqCells (.bool :: ks) (.bool x :: xs) (.bool y :: ys) = (eqCells ks xs ys).map (x == y && ·) := Eq.trans rfl rfl
theorem eqC_str {ks : List SK} {xs ys : List Value} {x y : ByteArray} : eqCells (.str :: ks) (.string x :: xs) (.string y :: ys) = (eqCells ks xs ys).map (x == y && ·) := Eq.trans rfl rfl

/-- Building by value. -/
def buildU (P : Program) (ok : Bool) (z : Option Value) (t : TypeId) (ps : List (Nat × Value)) : Option Value :=
  if ok = true then match z with
    | some z => (buildF (partPlace P t) ps (cellsV z)).map fun cs => .agg cs.toArray
    | none => none
  else none
theorem q_build {ps : List (Nat × Value)} : qBuild P t ps = buildU P (buildOk P t) (zeroV P t) t ps := by
  unfold qBuild buildU; split <;> rfl
theorem buildU_some {z : Value} {ps : List (Nat × Value)} : buildU P true (some z) t ps = (buildF (partPlace P t) ps (cellsV z)).map fun cs => .agg cs.toArray := by simp [buildU]
theorem buildF_nil {pl : Nat → Option (Nat × Nat)} {z : List Value} : buildF pl [] z = some z := Eq.trans rfl rfl
def placeU (P : Program) (u : Und) (f : Option (Nat × TypeId)) (i : Nat) : Option (Nat × Nat) :=
  match u with
  | .struct => match f with
    | some (off, ft) => (sz P ft).map fun s => (off, s)
    | none => none
  | .arr _ e => (sz P e).map fun s => (i * s, s)
  | _ => none
theorem q_place {i : Nat} : partPlace P t i = placeU P (und P t) (fieldT P t i) i := by
  unfold partPlace placeU
  cases und P t <;> try rfl
theorem placeU_struct {off i : Nat} {ft : TypeId} : placeU P .struct (some (off, ft)) i = (sz P ft).map fun s => (off, s) := Eq.trans rfl rfl
theorem placeU_arr {f : Option (Nat × TypeId)} {i : Nat} : placeU P (.arr n el) f i = (sz P el).map fun s => (i * s, s) := Eq.trans rfl rfl
def bstep (pl : Nat → Option (Nat × Nat)) (r : List (Nat × Value)) (z : List Value) (v : Value) (p : Option (Nat × Nat)) : Option (List Value) :=
  match p with
  | some (off, s) => if (cellsV v).length = s ∧ off + s ≤ z.length then buildF pl r (splice z off (cellsV v)) else none
  | none => none
theorem buildF_cons {pl : Nat → Option (Nat × Nat)} {i : Nat} {v : Value} {r : List (Nat × Value)} {z : List Value} : buildF pl ((i, v) :: r) z = bstep pl r z v (pl i) := Eq.trans rfl rfl
theorem bstep_some {pl : Nat → Option (Nat × Nat)} {v : Value} {r : List (Nat × Value)} {z : List Value} {off s : Nat} (h1 : (cellsV v).length = s) (h2 : off + s ≤ z.length) : bstep pl r z v (some (off, s)) = buildF pl r (splice z off (cellsV v)) := by simp [bstep, h1, h2]
theorem cellsV_agg {l : List Value} : cellsV (.agg l.toArray) = l := Eq.trans rfl rfl
theorem cellsV_int {x : Int} : cellsV (.int k x) = [.int k x] := Eq.trans rfl rfl
theorem cellsV_bool {x : Bool} : cellsV (.bool x) = [.bool x] := Eq.trans rfl rfl
theorem cellsV_str {x : ByteArray} : cellsV (.string x) = [.string x] := Eq.trans rfl rfl
theorem cellsV_ptr {x : Option Addr} : cellsV (.pointer x) = [.pointer x] := Eq.trans rfl rfl
theorem cellsV_slice {x : Option Addr} : cellsV (.slice x n c) = [.slice x n c] := Eq.trans rfl rfl
theorem cellsV_map {x : Option Nat} : cellsV (.map x) = [.map x] := Eq.trans rfl rfl
theorem extract_lit {l : List Value} {i : Nat} : qExtract (.tuple l.toArray) i = l[i]? := Eq.trans rfl rfl
end

theorem u8V_def (c : UInt8) : u8V c = .int .u8 (c.toNat : Int) := Eq.trans rfl rfl
theorem shr_u8 (c : UInt8) (k : Nat) : ((c.toNat : Int).fdiv (2 ^ k)) = ((c.toNat / 2 ^ k : Nat) : Int) := by
  rw [Int.fdiv_eq_ediv_of_nonneg _ (Int.le_of_lt (Int.pow_pos (by decide)))]
  simp
theorem shrK_nat (k : IntKind) (m : Nat) (b : Int) (h : b.toNat ≤ k.bits) : shrK k (m : Int) b = ((m / 2 ^ b.toNat : Nat) : Int) := by
  unfold shrK
  rw [Nat.min_eq_left h, Int.fdiv_eq_ediv_of_nonneg _ (Int.le_of_lt (Int.pow_pos (by decide)))]
  simp
theorem ofInt_nat (k : IntKind) (m : Nat) (h : m < 2 ^ k.bits) : (BitVec.ofInt k.bits (m : Int)).toNat = m := by
  rw [BitVec.toNat_ofInt]
  have : ((m : Int) % ((2 ^ k.bits : Nat) : Int)) = m := Int.emod_eq_of_lt (by omega) (by exact_mod_cast h)
  rw [this]; rfl
theorem wrap_nat (k : IntKind) (m : Nat) (h : m < 2 ^ k.bits) (hs : k.signed = false) : k.wrap (m : Int) = m := by
  cases k <;> simp [IntKind.signed] at hs <;> simp [IntKind.wrap, IntKind.bits, IntKind.signed] at h ⊢ <;> omega
theorem andK_nat (k : IntKind) (m n : Nat) (hm : m < 2 ^ k.bits) (hn : n < 2 ^ k.bits) (hs : k.signed = false) : andK k (m : Int) (n : Int) = ((m &&& n : Nat) : Int) := by
  unfold andK
  rw [BitVec.toNat_and, ofInt_nat k m hm, ofInt_nat k n hn]
  exact wrap_nat k _ (Nat.lt_of_le_of_lt Nat.and_le_left hm) hs
theorem orK_nat (k : IntKind) (m n : Nat) (hm : m < 2 ^ k.bits) (hn : n < 2 ^ k.bits) (hs : k.signed = false) : orK k (m : Int) (n : Int) = ((m ||| n : Nat) : Int) := by
  unfold orK
  rw [BitVec.toNat_or, ofInt_nat k m hm, ofInt_nat k n hn]
  exact wrap_nat k _ (Nat.or_lt_two_pow hm hn) hs
theorem xorK_nat (k : IntKind) (m n : Nat) (hm : m < 2 ^ k.bits) (hn : n < 2 ^ k.bits) (hs : k.signed = false) : xorK k (m : Int) (n : Int) = ((m ^^^ n : Nat) : Int) := by
  unfold xorK
  rw [BitVec.toNat_xor, ofInt_nat k m hm, ofInt_nat k n hn]
  exact wrap_nat k _ (Nat.xor_lt_two_pow hm hn) hs
theorem andK_one (k : IntKind) (m : Nat) (hm : m < 2 ^ k.bits) : andK k (m : Int) 1 = ((m % 2 : Nat) : Int) := by
  unfold andK
  have e2 : (BitVec.ofInt k.bits 1).toNat = 1 := by cases k <;> decide
  rw [BitVec.toNat_and, ofInt_nat k m hm, e2, Nat.and_one_is_mod]
  have : m % 2 < 2 := Nat.mod_lt _ (by decide)
  cases k <;> simp [IntKind.wrap, IntKind.bits, IntKind.signed] <;> omega

/-! ### Memory, met on its way -/
section
variable {H : Heap} {a : Option Addr}
def plainA (a : Option Addr) : Bool := match a with | some ⟨_, _, some _⟩ => false | _ => true
theorem at1_add {m : Nat} {j : Nat} (hp : plainA a = true) : at1 H (a.map (·.add m)) j = at1 H a (m + j) := by
  cases a with
  | none => rfl
  | some x =>
    obtain ⟨b, o, sp⟩ := x
    cases sp with
    | some x => simp [plainA] at hp
    | none => simp [at1, Addr.add_mid, Nat.add_assoc]
theorem atN_add {m : Nat} {j r : Nat} (hp : plainA a = true) : atN H (a.map (·.add m)) j r = atN H a (m + j) r := by
  cases a with
  | none => rfl
  | some x =>
    obtain ⟨b, o, sp⟩ := x
    cases sp with
    | some x => simp [plainA] at hp
    | none => simp [atN, Addr.add_mid, Nat.add_assoc]
end

/-- Of a slice: its cells are known. -/
structure SlA (H : Heap) (a : Option Addr) (n s : Nat) (cs : List Value) : Prop where
  plain : plainA a = true
  there : 0 < n → a.isSome = true
  len : cs.length = n * s
  get : ∀ k, k < n * s → at1 H a k = cs[k]?
  getN : ∀ k m, 0 < m → k + m ≤ n * s → atN H a k m = some ((cs.drop k).take m)

theorem SlA.le {H H' : Heap} {a : Option Addr} {n s : Nat} {cs : List Value} (h : SlA H a n s cs) (hl : Heap.le H H') : SlA H' a n s cs := by
  have hat : ∀ k v, at1 H a k = Option.some v → at1 H' a k = Option.some v := fun k v hv => by
    unfold at1 at hv ⊢
    split at hv
    · unfold rd1 at hv ⊢
      split at hv
      · rename_i e; rw [hl _ _ e]; exact hv
      · cases hv
    · cases hv
  refine ⟨h.plain, h.there, h.len, fun k hk => ?_, fun k m hm hk => ?_⟩
  · have h1 := h.get k hk
    rw [List.getElem?_eq_getElem (by rw [h.len]; exact hk)] at h1 ⊢
    exact hat k _ h1
  · have h1 := h.getN k m hm hk
    unfold atN at h1 ⊢
    split at h1
    · unfold rdN at h1 ⊢
      rw [if_neg (by omega)] at h1 ⊢
      split at h1
      · rename_i e; rw [hl _ _ e]; exact h1
      · cases h1
    · cases h1

theorem SlA.nil (H : Heap) (s : Nat) : SlA H none 0 s [] := ⟨rfl, fun h => absurd h (Nat.lt_irrefl _), by simp, fun k hk => by simp at hk, fun k m hm hk => by simp at hk; omega⟩

theorem SlA.row {H : Heap} {b o n s : Nat} {own : Bool} {off room : Nat} {vs cs : List Value} (hb : H b = Option.some (.row own off vs room)) (ho : off ≤ o) (hl : cs.length = n * s) (hr : o - off + n * s ≤ vs.length) (hc : (vs.drop (o - off)).take (n * s) = cs) :
    SlA H (Option.some ⟨b, o, none⟩) n s cs := by
  refine ⟨rfl, fun _ => rfl, hl, fun k hk => ?_, fun k m hm hk => ?_⟩
  · simp only [at1, rd1, hb]
    rw [if_pos (by omega), ← hc, List.getElem?_take_of_lt hk, List.getElem?_drop]
    congr 1; omega
  · simp only [atN, rdN, hb]
    rw [if_neg (by omega), if_pos (by omega), ← hc]
    congr 1
    rw [List.drop_take, List.take_take, List.drop_drop, Nat.min_eq_left (by omega)]
    congr 2; omega

attribute [simp] x_cap q_cap capU_slice
attribute [simp] x_delete x_makeMap x_lookup x_mapUpdate x_range x_next x_entry
attribute [simp] opsP_nil opsP_cons eopsP_done eopsP_op eopsP_both runO_some resVs_nil resVs_tmp resVs_cell cellR_ptr tupleV_one tupleV_two tupleV_none Heap.le_refl u8V_def eops_nil eops_none eops_some knext_app gdK_tt gdK_ff gdK_tf gdK_ft gdK_undef gval_L gvalL_succ gvalL_zero toList_lit onSome_some x_move x_assign x_pick x_load x_binOp x_unOp x_slice x_fieldAddr x_field x_indexAddr x_index x_extract x_build x_nilCheck nilK_some x_convert convS_int convS_str convS_new convS_sl cvB_row convK_int convK_str convK_new x_len x_min x_max x_store x_box x_alloc allocK_some x_makeSlice x_buildSlice x_append x_copy x_clear x_call callX_true callX_false w_skip w_region w_seq w_cond condK_true condK_false w_block w_exit w_ret kseq_normal kseq_exit kseq_ret kblock_exit kblock_normal kblock_ret kloop_exit kloop_ret kret_ret kret_normal put_someH put_noneH eval_tmp eval_const heap_mk env_mk setE_app envL_zero envL_succ envL_nil qPick_bool b_add b_sub b_mul b_quo b_rem b_and b_or b_xor b_andNot b_eql b_neq b_lss b_leq b_gtr b_geq b_shl b_shr u_neg u_not u_xor wr_i64 wr_u8 wr_u16 wr_u32 wr_u64 wr_i32 wr_i8 tdiv_nn tmod_nn q_len lenU_slice lenU_str lenU_arr q_ix ixU_slice ixS_in ixU_arr ixA_in q_id idU_str idU_arr idA_in q_part partU_agg partU_one q_field fieldU_some q_fieldAddr faU_some faS_some q_load loadU_one loadU_agg at1_lit atN_lit rd1U_row rdNU_row rdNU_all e_store storeU_one storeU_agg q_slice slU_slice slU_str slU_arr slU_some slSU_some slAU_some bd_lh bd_l bd_h bd_n bd_lhm bd_hm q_nil nilU_bool nilU_ptr nilU_slice b_eqlB b_neqB b_eqlP b_neqP b_eqlS b_neqS b_eqlA b_neqA eqA_some eqC_nil eqC_int eqC_bool eqC_str q_build buildU_some buildF_nil q_place placeU_struct placeU_arr buildF_cons bstep_some cellsV_agg cellsV_int cellsV_bool cellsV_str cellsV_ptr cellsV_slice cellsV_map extract_lit at1_add atN_add

end Go.Proofs.YtfpighmafofoeaaDoor.GL
