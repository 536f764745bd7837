/- Layer 20: slices.AppendSeq over the keys of a map. -/
import Derived.Test.YtfpighmafofoeaaDoorSoD
import Derived.Maps.AppendAt
import Derived.RangeFuncBox
namespace Go.Proofs.YtfpighmafofoeaaDoor.GL
open Go Go.RowKit Go.Shelf
set_option maxRecDepth 100000
set_option pp.deepTerms.threshold 8
set_option pp.maxSteps 3000
set_option linter.unusedSimpArgs false
set_option linter.unusedVariables false
attribute [local go_sem] Oper.semAt_some

/-- A boxed key. -/
def BoxK (W : World) (B : Nat) (x : KZ) : Prop := W.heap[B]? = some (.cells #[.int .u16 x.t, .int .u32 x.s] 38 (0, 0))
theorem BoxK.lt {W : World} {B : Nat} {x : KZ} (h : BoxK W B x) : B < W.heap.size := (Array.getElem?_eq_some_iff.1 h).1
theorem BoxK.c0 {W : World} {B : Nat} {x : KZ} (h : BoxK W B x) : W.cell? ⟨B, 0, none⟩ = some (.int .u16 x.t) := by simp [World.cell?, show W.heap[B]? = _ from h]
theorem BoxK.c1 {W : World} {B : Nat} {x : KZ} (h : BoxK W B x) : W.cell? ⟨B, 1, none⟩ = some (.int .u32 x.s) := by simp [World.cell?, show W.heap[B]? = _ from h]
theorem BoxK.new (W : World) (x : KZ) : BoxK (W.alloc (.cells #[.int .u16 x.t, .int .u32 x.s] 38)) W.heap.size x := World.alloc_heap_new W _
theorem boxK_own {β : Type} (B : Nat) (x : KZ) : _root_.Go.Own (fun (_ : β) W => BoxK W B x) := fun s X Y row hs hg hrow =>
  (hg.block B hs.lt (fun e' => by obtain ⟨o, ho, hc⟩ := hrow B e'.symm; rw [show X.heap[B]? = _ from hs] at ho; cases ho; cases hc)).trans hs
theorem cell_two_new (w : World) (x y : Value) (t : TypeId) : ∀ j u, [x, y][j]? = some u → (w.alloc (.cells #[x, y] t)).cell? ((⟨w.heap.size, 0, none⟩ : Addr).add j) = some u := by
  intro j u hj
  match j, hj with
  | 0, hj =>
    simp at hj
    subst hj
    simp [Addr.add]
  | 1, hj =>
    simp at hj
    subst hj
    simp [Addr.add]
theorem infoKey : (Tryd.prog.info? 38).map (fun i => (i.zero, i.size, i.bytes)) = some (some (.agg #[.int .u16 0, .int .u32 0]), 2, 8) := by kernel_rfl
theorem rowsC_snoc (pre : List KZ) (x : KZ) : rowsC KZ.cells (pre ++ [x]) = rowsC KZ.cells pre ++ [.int .u16 x.t, .int .u32 x.s] := by
  simp [rowsC, KZ.cells]

set_option maxHeartbeats 4000000 in
theorem appendSeq_in (F : Fence) (n : Nat) (g : Nat) (lb : Array Value) (hF : F.fn 61) (hFg : F.fn g) (eg : ∀ args w, (callFunc g args).run Tryd.prog w = .ok (.enter g args) w) (hro : F.round = none) (hn : 3 ≤ n) (N : Nat) (hN : N ≤ 1000000) (S : List KZ → Prop) (hSN : ∀ xs, S xs → xs.length ≤ N) (w : World)
    (hseq : SeqStops F (n - 1) Tryd.prog g lb encK S (fun _ => True) N w) :
    CallsIn F n Tryd.prog 61 #[.slice none 0 0, .func (.func g) #[] lb] w fun e W' => ∃ v xs, e = .returned v ∧ S xs ∧ W'.ownsRow w.heap.size 38 2 v xs.length (rowsC KZ.cells xs) ∧ (v = .slice none 0 0 ↔ xs = []) ∧ Below w.heap.size w W' := by
  have h1 : 1 ≤ n := by omega
  obtain ⟨i0, hi, hz0, hz1, hz2⟩ := info_parts infoKey
  refine callsIn_of_wp_marks Tryd.func61 rfl hF ?_ hro
  simp only [Tryd.ntmps61, List.size_toArray, List.length_cons, List.length_nil, Nat.reduceAdd, Nat.reduceSub, Array.replicate_succ, Array.replicate_zero, List.push_toArray, List.append_toArray, List.nil_append, List.cons_append]
  gi_wp2
  have bO := Boxed.new w 107 (.slice none 0 0)
  have hB0 : Below w.heap.size w (w.alloc (.cells #[.slice none 0 0] 107)) := (Below.refl _ w).alloc (Nat.le_refl _) _
  have hsz : (w.alloc (.cells #[.slice none 0 0] 107)).heap.size = w.heap.size + 1 := by simp
  obtain ⟨W0, hW0⟩ : ∃ W0, w.alloc (.cells #[.slice none 0 0] 107) = W0 := ⟨_, rfl⟩
  rw [hW0] at bO hB0 hsz ⊢
  clear hW0
  refine wpIn_rangeFunc_ownH hro h1 (gf := g) (lb := lb) rfl hFg eg hseq walksK_t walksK_b hB0 (fun _ => rfl)
    (fun pre W => (∃ v, Boxed W w.heap.size 107 v ∧ W.ownsRow w.heap.size 38 2 v pre.length (rowsC KZ.cells pre) ∧ (v = .slice none 0 0 ↔ pre = [])) ∧ Below w.heap.size w W)
    (fun _ _ _ => False)
    (OwnFrom.and (Own.from (holdsRow_own w.heap.size w.heap.size 107 38 2 (fun (pre : List KZ) => pre.length) (fun pre => rowsC KZ.cells pre) (fun pre v => v = .slice none 0 0 ↔ pre = [])) _) (ownFrom_below (Nat.le_refl _) (by omega)))
    (fun _ _ _ _ _ hs _ _ => hs)
    ⟨⟨_, bO, World.ownsRow_nil _ _ _ _, by simp⟩, hB0⟩
    (fun x a' W => ∃ Bx, w.heap.size < Bx ∧ BoxK W Bx x ∧ a' = { tmps := #[.slice none 0 0, .func (.func g) #[] lb, .pointer (some ⟨w.heap.size, 0, none⟩), undef, .slice none 0 0, .pointer (some ⟨Bx, 0, none⟩), .func (.func g) #[] lb, encK x, undef, undef, undef, undef, undef], defers := [] })
    (fun x a' _ X Y row hs hg hr => by obtain ⟨Bx, h1, h2, h3⟩ := hs; exact ⟨Bx, h1, boxK_own Bx x () X Y row h2 hg (fun r e => (hr r e).2), h3⟩)
    ?assign ?body ?done ?stop
  case assign =>
    rintro l pre x W K ⟨⟨v, hv, hrow, hnil⟩, hB1⟩ hK
    unfold encK
    gi_wp2
    exact hK _ _ ((KeepsOthers.alloc _ _).from _) ((KeepsOthers.alloc _ _).walks) ⟨⟨v, hv.alloc _, hrow.alloc _, hnil⟩, hB1.alloc hB1.size _⟩ ⟨W.heap.size, hv.lt, BoxK.new W _, rfl⟩
  case body =>
    rintro l pre x a' W hl ⟨r, hr⟩ ⟨⟨v, hv, hrow, hnil⟩, hB⟩ ⟨Bx, hBx, bX, rfl⟩ hlt
    have hc := hv.cell
    have hx0 := bX.c0
    have hx1 := bX.c1
    gi_wp2_with (gi_at_builtin; refine wpListIn_append_own _ rfl _ _ 107 rfl w.heap.size 38 i0 (.agg #[.int .u16 0, .int .u32 0]) 2 8 Tryd.underlying107 hi hz0 hz1 hz2 rfl (by decide) _ _ _ rfl (hrow.alloc _) ⟨W.heap.size, 0, none⟩ 1 1 [.int .u16 x.t, .int .u32 x.s] rfl rfl (cell_two_new _ _ _ _) (by simp [Value.oneCell']) (by simp only [maxLen]; omega) (by omega) (by have := hB.size; simp; omega) ?_; intro v' w1 hown' hgrow _; obtain ⟨g', cap', rfl⟩ := ownsRow_succ hown'; obtain ⟨hv1, hv2, hr2, hk2, hb2⟩ := hv.appended (by decide) hrow hB.size (Nat.le_refl _) hown' hgrow; have hc1 := hv1.cell; have hf1 := hv1.frozen)
    exact ⟨hk2.from _, hk2.walks, ⟨_, hv2, by simpa [rowsC_snoc] using hr2, by simp⟩, hB.trans hb2⟩
  case done =>
    rintro D xs W hD hS ⟨⟨v, hv, hrow, hnil⟩, hB⟩ hK
    have hc := hv.cell
    gi_wp2
    refine ⟨by simp, .inl ⟨_, _, rfl, run_takeDeferred hK, ?_⟩⟩
    exact ⟨_, results_tmp rfl _ _ _, v, xs, rfl, hS, ownsRow_putObj hrow _ hK rfl, hnil, hB.trans (belowK_b (w := w) (Nat.le_refl _) W D _ _ (by omega) hK rfl rfl)⟩
  case stop =>
    rintro D c pre W _ _ h _
    exact h.elim
end Go.Proofs.YtfpighmafofoeaaDoor.GL
