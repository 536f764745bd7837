/- Running code over (slots, heap): 'ewp', by the code's own structure; and that it tells no more than the model does. A function's contract out of its body. -/
import Derived.Test.YtfpighmafofoeaaDoorGlF
import Derived.Test.YtfpighmafofoeaaDoorGlN
import Derived.StillTail
namespace Go.Proofs.YtfpighmafofoeaaDoor.GL
set_option linter.unusedSimpArgs false
set_option linter.unusedVariables false
open Go Go.RowKit

structure St where
  env : Nat → Value
  heap : Heap

def setE (env : Nat → Value) (d : Nat) (v : Value) : Nat → Value := fun i => if i = d then v else env i
def St.eval (s : St) : Operand → Value
  | .tmp t => s.env t
  | .const v => v
  | .global g => .pointer (some ⟨g, 0, none⟩)
  | .func f => .func (.func f) #[] #[]
def St.put (s : St) (d : Option Tmp) (v : Value) (H : Heap) : St :=
  match d with
  | some d => ⟨setE s.env d v, H⟩
  | none => ⟨s.env, H⟩

/-! ### One operation -/
def callable (P : Program) (f : FuncId) : Bool :=
  match P.funcs[f]? with
  | some fn => fn.body.isSome && !(fn.name == "runtime.NumGoroutine")
  | none => false

/-- A function that the model itself answers, and that leaves all as it was. -/
def eExt (P : Program) (f : FuncId) (args : Array Value) (H : Heap) (K : Kont) : Prop := ∃ v, K v H ∧ ∀ w, (callFunc f args).run P w = .ok (.value v) w
def callX (c : Bool) (P : Program) (f : FuncId) (args : Array Value) (H : Heap) (K : Kont) : Prop :=
  match c with
  | true => ECalls P f args H K
  | false => eExt P f args H K
theorem callX_mono {P : Program} {f : FuncId} {args : Array Value} {H : Heap} {K K' : Kont} (hk : ∀ v H', K v H' → K' v H') : ∀ {c : Bool}, callX c P f args H K → callX c P f args H K'
  | true, h => ECalls.mono h hk
  | false, ⟨v, h, hr⟩ => ⟨v, hk _ _ h, hr⟩

def eop (P : Program) (ρ : Operand → Value) (o : Oper) (H : Heap) (K : Kont) : Prop :=
  match o.op with
  | .alloc t => match zeroV P t with
    | some z => eNew (cellsV z) H K
    | none => False
  | .box _ x => eNew (cellsV (ρ x)) H K
  | .store t a x => eStore P t (ρ a) (ρ x) H K
  | .makeSlice t l c => eMake P t (ρ l) (ρ c) H K
  | .buildSlice t n ps => eBuildSlice P t n (ps.toList.map fun p => (p.1, ρ p.2)) H K
  | .convert s d x => match und P s, und P d, ρ x with
    | .str, .slice e, .string b => und P e = .int .u8 ∧ eStrBytes b H K
    | .slice _, .slice e, .slice a n c => eConvB P s d e (.slice a n c) H K
    | _, _, _ => ∃ v, qop P ρ o.op H = some v ∧ K v H
  | .call c => match c.callee, c.argTypes.toList, c.args.toList with
    | .builtin .append, [t, t1], [v, x] => eApp P t t1 (ρ v) (ρ x) H K
    | .builtin .copy, [t, t1], [v, x] => eCopy P t t1 (ρ v) (ρ x) H K
    | .builtin .clear, [t], [v] => eClear P t (ρ v) H K
    | .builtin .delete, [t, _], [v, k] => eDelete P t (ρ v) (ρ k) H K
    | .value f, _, _ => match ρ f with
      | .func (.func g) first captured => callX (callable P g) P g (first ++ c.args.map ρ ++ captured) H K
      | _ => False
    | _, _, _ => ∃ v, qop P ρ o.op H = some v ∧ K v H
  | .makeMap _ r => match r with
    | none => eMakeMap H K ∨ eMakeMapG H K
    | some _ => False
  | .lookup t x k ok => ∃ v, qLook P t (ρ x) (ρ k) ok H = some v ∧ K v H
  | .mapUpdate t m k x => eMapSet P t (ρ m) (ρ k) (ρ x) H K
  | .range t x => eRange P t (ρ x) H K
  | .next it isString => match isString with
    | false => eNext (ρ it) H K
    | true => False
  | .entry it => ∃ v, qEntry (ρ it) H = some v ∧ K v H
  | _ => ∃ v, qop P ρ o.op H = some v ∧ K v H

theorem eop_ok {P : Program} {ρ : Operand → Value} {o : Oper} {W0 w : World} {H : Heap} {K : Kont} (h : Sat W0 w H) (he : eop P ρ o H K) : StepOk P W0 K ((execOp ρ o).run P w) := by
  have quiet : (∃ v, qop P ρ o.op H = some v ∧ K v H) → StepOk P W0 K ((execOp ρ o).run P w) := fun ⟨v, hv, hk⟩ => by
    rw [qop_ok h hv]
    exact ⟨H, hk, h⟩
  unfold eop at he
  generalize hop : o.op = op at he
  cases op with
  | alloc t =>
    simp only at he
    split at he
    · rename_i z hz
      have := eNew_ok (P := P) t z h he
      unfold execOp
      simp only [hop]
      simpa [Instr.alloc, run_zeroValue hz] using this
    · exact he.elim
  | box t x =>
    have := eNew_ok (P := P) t (ρ x) h he
    unfold execOp
    simp only [hop]
    simpa [Instr.box] using this
  | store t a x =>
    have := eStore_ok (P := P) h he
    unfold execOp
    simp only [hop]
    exact this
  | makeSlice t l c =>
    have := eMake_ok (P := P) h he
    unfold execOp
    simp only [hop]
    exact this
  | buildSlice t n ps =>
    have := eBuildSlice_ok (P := P) (ps := ps.map fun p => (p.1, ρ p.2)) h (by simpa using he)
    unfold execOp
    simp only [hop]
    exact this
  | convert s d x =>
    simp only at he
    split at he
    · rename_i e b hs hd hx
      have := eStrBytes_ok (P := P) h hs hd he.1 he.2
      unfold execOp
      simp only [hop, hx]
      exact this
    · rename_i e0 e a n c hs hd hx
      have := eConvB_ok (P := P) h hs hd he
      unfold execOp
      simp only [hop, hx]
      exact this
    · exact quiet (by rw [hop]; exact he)
  | call c =>
    simp only at he
    obtain ⟨callee, args, ats⟩ := c
    simp only at he
    split at he
    · rename_i t t1 v x ht hx
      have ha : args = #[v, x] := by rw [← Array.toArray_toList (xs := args), hx]
      have ht' : ats = #[t, t1] := by rw [← Array.toArray_toList (xs := ats), ht]
      subst ha
      subst ht'
      have := eApp_ok (P := P) (ty := o.type) h he
      unfold execOp
      simp only [hop]
      simpa [resolve, invoke, builtin] using this
    · rename_i t t1 v x ht hx
      have ha : args = #[v, x] := by rw [← Array.toArray_toList (xs := args), hx]
      have ht' : ats = #[t, t1] := by rw [← Array.toArray_toList (xs := ats), ht]
      subst ha
      subst ht'
      have := eCopy_ok (P := P) (ty := o.type) h he
      unfold execOp
      simp only [hop]
      simpa [resolve, invoke, builtin] using this
    · rename_i t v ht hx
      have ha : args = #[v] := by rw [← Array.toArray_toList (xs := args), hx]
      have ht' : ats = #[t] := by rw [← Array.toArray_toList (xs := ats), ht]
      subst ha
      subst ht'
      have := eClear_ok (P := P) (ty := o.type) h he
      unfold execOp
      simp only [hop]
      simpa [resolve, invoke, builtin] using this
    · rename_i t t1 v k ht hx
      have ha : args = #[v, k] := by rw [← Array.toArray_toList (xs := args), hx]
      have ht' : ats = #[t, t1] := by rw [← Array.toArray_toList (xs := ats), ht]
      subst ha
      subst ht'
      have := delete_ok2 (P := P) (ty := o.type) (t1 := t1) h he
      unfold execOp
      simp only [hop]
      simpa [resolve, invoke, builtin] using this
    · rename_i f
      split at he
      · rename_i g first captured hf
        cases hc : callable P g with
        | false =>
          rw [hc] at he
          obtain ⟨v, hk, hrun⟩ := he
          unfold execOp
          simp only [hop]
          simp only [resolve, Deferred.ofValue, hf, invoke, Sem.run_bind, Sem.run_pure, Result.andThen_ok]
          rw [hrun w]
          exact ⟨H, hk, h⟩
        | true =>
          rw [hc] at he
          have hcall : ECalls P g (first ++ args.map ρ ++ captured) H K := he
          unfold callable at hc
          split at hc
          · rename_i fn hfn
            simp only [Bool.and_eq_true, Bool.not_eq_true', beq_eq_false_iff_ne, ne_eq] at hc
            have hb : fn.body.isNone = false := by cases hq : fn.body <;> simp_all
            have := hcall W0 w h
            unfold execOp
            simp only [hop]
            simp only [resolve, Deferred.ofValue, hf, invoke, callFunc, Sem.run_bind, Sem.run_pure, Result.andThen_ok, run_program, hfn]
            simpa [hc.2, hb, StepOk] using this
          · cases hc
      · exact he.elim
    · exact quiet (by rw [hop]; exact he)
  | makeMap t r =>
    cases r with
    | some _ => exact he.elim
    | none =>
      rcases he with he | he
      · have := makeMap_ok (P := P) (t := t) h he
        unfold execOp
        simp only [hop]
        exact this
      · have := makeMapG_ok (P := P) (t := t) h he
        unfold execOp
        simp only [hop]
        exact this
  | lookup t x k ok =>
    obtain ⟨v, hv, hk⟩ := he
    have hr := look_ok (ok := ok) h hv
    unfold execOp
    simp only [hop, Sem.run_bind]
    rw [hr]
    exact ⟨H, hk, h⟩
  | mapUpdate t m k x =>
    have := mapSet_ok (P := P) h he
    unfold execOp
    simp only [hop]
    exact this
  | range t x =>
    have := range_ok (P := P) h he
    unfold execOp
    simp only [hop]
    exact this
  | next it isString =>
    cases isString with
    | true => exact he.elim
    | false =>
      have := next_ok (P := P) (t := o.type) h he
      unfold execOp
      simp only [hop]
      exact this
  | entry it =>
    obtain ⟨v, hv, hk⟩ := he
    have hr := entry_ok (P := P) h hv
    unfold execOp
    simp only [hop, Sem.run_bind]
    rw [hr]
    exact ⟨H, hk, h⟩
  | _ => exact quiet (by rw [hop]; exact he)

/-! ### A region -/
def wantE (ops : Array Oper) (s : St) (o : Oper) : Bool :=
  match o.guard with
  | none => true
  | some (j, want) => match (ops[j]?).bind (·.dst) with
    | some d => match s.env d with
      | .bool b => b == want
      | _ => false
    | none => false

def eops (P : Program) (ops : Array Oper) : List Oper → (St → Prop) → St → Prop
  | [], K, s => K s
  | o :: rest, K, s =>
    (wantE ops s o = true → eop P s.eval o s.heap fun v H => eops P ops rest K (s.put o.dst v H)) ∧
    (wantE ops s o = false → eops P ops rest K (s.put o.dst undef s.heap))

structure Rel (N : Nat) (W0 : World) (s : St) (a : Act) (w : World) : Prop where
  defers : a.defers = []
  size : a.tmps.size = N
  env : ∀ i, s.env i = a.tmps.getD i undef
  sat : Sat W0 w s.heap

theorem Rel.eval {N : Nat} {W0 : World} {s : St} {a : Act} {w : World} (h : Rel N W0 s a w) : a.eval = s.eval := by
  funext x
  cases x with
  | tmp t => exact (h.env t).symm
  | const v => rfl
  | global g => rfl
  | func f => rfl

theorem Rel.put {N : Nat} {W0 : World} {s : St} {a : Act} {w w' : World} {H : Heap} (h : Rel N W0 s a w) (d : Option Tmp) (hd : ∀ x, d = some x → x < N) (v : Value) (hs : Sat W0 w' H) : Rel N W0 (s.put d v H) (a.put d v) w' := by
  cases d with
  | none => exact ⟨h.defers, h.size, h.env, hs⟩
  | some d =>
    have hlt := hd d rfl
    refine ⟨h.defers, by simpa [Act.put] using h.size, fun i => ?_, hs⟩
    simp only [St.put, Act.put, setE]
    by_cases hi : i = d
    · subst hi
      have : i < a.tmps.size := by rw [h.size]; exact hlt
      simp [this]
    · rw [if_neg hi, h.env i]
      simp only [Array.getD_eq_getD_getElem?]
      rw [Array.getElem?_setIfInBounds_ne (by omega)]

def opsOk (N : Nat) (ops : List Oper) : Bool := ops.all fun o => match o.dst with | some d => decide (d < N) | none => true

theorem opsOk_dst {N : Nat} {ops : List Oper} (h : opsOk N ops = true) {o : Oper} (ho : o ∈ ops) : ∀ x, o.dst = some x → x < N := fun x hx => by
  have := (List.all_eq_true.1 h) o ho
  rw [hx] at this
  simpa using this

theorem wantE_eq {N : Nat} {W0 : World} {s : St} {a : Act} {w : World} {ops : Array Oper} (h : Rel N W0 s a w) (hN : opsOk N ops.toList = true) (o : Oper) : Region.wanted o (yielded ops a.tmps) = wantE ops s o := by
  unfold Region.wanted wantE
  cases o.guard with
  | none => rfl
  | some g =>
    obtain ⟨j, want⟩ := g
    simp only [yielded]
    cases hj : ops[j]? with
    | none => simp
    | some oj =>
      simp only [Option.bind_some]
      cases hd : oj.dst with
      | none => simp
      | some d =>
        have hm : oj ∈ ops.toList := Array.mem_toList_iff.2 (Array.mem_of_getElem? hj)
        have hlt := opsOk_dst hN hm d hd
        simp only [Option.bind_some]
        rw [h.env d]
        have hlt' : d < a.tmps.size := by rw [h.size]; exact hlt
        simp only [Array.getD_eq_getD_getElem?, Array.getElem?_eq_getElem hlt', Option.getD_some]
        cases a.tmps[d] <;> simp

theorem eops_ok {P : Program} {N : Nat} {W0 : World} {ops : Array Oper} (hN : opsOk N ops.toList = true) {K : St → Prop} {Q : Exit → Act → World → Prop} (hQ : ∀ s a w, K s → Rel N W0 s a w → Q .normal a w) :
    ∀ (l : List Oper), (∀ o ∈ l, o ∈ ops.toList) → ∀ (s : St) (a : Act) (w : World), eops P ops l K s → Rel N W0 s a w → wpList P ops Q l a w
  | [], _, s, a, w, h, hr => hQ s a w h hr
  | o :: rest, hm, s, a, w, h, hr => by
    have hw := wantE_eq hr hN o
    have hd := opsOk_dst hN (hm o (by simp))
    unfold wpList
    rw [hw]
    unfold eops at h
    by_cases hwt : wantE ops s o = true
    · rw [if_pos hwt]
      left
      have hstep := eop_ok hr.sat (h.1 hwt)
      unfold Oper.wp
      rw [hr.eval]
      generalize (execOp s.eval o).run P w = r at hstep
      have ih := eops_ok (P := P) hN hQ rest (fun o ho => hm o (by simp [ho]))
      cases r with
      | ok n w' =>
        cases n <;> simp only [StepOk] at hstep <;> first | (exact hstep.elim) | skip
        · obtain ⟨H, hk, hs⟩ := hstep
          exact ih _ _ _ hk (hr.put o.dst hd _ hs)
        · obtain ⟨H, hk, hs⟩ := hstep
          exact ih _ _ _ hk (hr.put o.dst hd _ hs)
        · refine hstep.mono fun e w'' ⟨v, H, he, hk, hs⟩ => ?_
          subst he
          exact ih _ _ _ hk (hr.put o.dst hd _ hs)
      | halt x w' => exact hstep.elim
    · rw [if_neg hwt]
      exact eops_ok hN hQ rest (fun o ho => hm o (by simp [ho])) _ _ _ (h.2 (by simpa using hwt)) (hr.put o.dst hd _ hr.sat)

/-! ### A region that draws its order, of quiet operations and of calls that leave all as it was -/
def eopQ (P : Program) (ρ : Operand → Value) (o : Oper) (H : Heap) (K : Value → Prop) : Prop :=
  match o.op with
  | .call c => match c.callee with
    | .value f => match ρ f with
      | .func (.func g) first captured => callable P g = true ∧ ∃ v, ECalls P g (first ++ c.args.map ρ ++ captured) H (fun u H' => u = v ∧ H' = H) ∧ K v
      | _ => False
    | _ => ∃ v, qop P ρ o.op H = some v ∧ K v
  | _ => ∃ v, qop P ρ o.op H = some v ∧ K v

def eopsQ (P : Program) (ops : Array Oper) : List Oper → (St → Prop) → St → Prop
  | [], K, s => K s
  | o :: rest, K, s =>
    (wantE ops s o = true → eopQ P s.eval o s.heap fun v => eopsQ P ops rest K (s.put o.dst v s.heap)) ∧
    (wantE ops s o = false → eopsQ P ops rest K (s.put o.dst undef s.heap))

theorem eopQ_ok {P : Program} {ρ : Operand → Value} {o : Oper} {W0 : World} {H : Heap} {K : Value → Prop} (he : eopQ P ρ o H K) :
    ∃ v, K v ∧ ∀ w, Sat W0 w H → Oper.quietUpon P (fun w' => Sat W0 w' H) w v ((execOp ρ o).run P w) := by
  have quiet : (∃ v, qop P ρ o.op H = some v ∧ K v) → ∃ v, K v ∧ ∀ w, Sat W0 w H → Oper.quietUpon P (fun w' => Sat W0 w' H) w v ((execOp ρ o).run P w) := fun ⟨v, hv, hk⟩ =>
    ⟨v, hk, fun w h => by rw [qop_ok h hv]; exact ⟨rfl, rfl⟩⟩
  unfold eopQ at he
  generalize hop : o.op = op at he
  cases op with
  | call c =>
    simp only at he
    obtain ⟨callee, args, ats⟩ := c
    simp only at he
    split at he
    · rename_i f
      split at he
      · rename_i g first captured hf
        obtain ⟨hc, v, hcall, hk⟩ := he
        refine ⟨v, hk, fun w h => ?_⟩
        unfold callable at hc
        split at hc
        · rename_i fn hfn
          simp only [Bool.and_eq_true, Bool.not_eq_true', beq_eq_false_iff_ne, ne_eq] at hc
          have hb : fn.body.isNone = false := by cases hq : fn.body <;> simp_all
          have := hcall W0 w h
          unfold execOp
          simp only [hop]
          simp only [resolve, Deferred.ofValue, hf, invoke, callFunc, Sem.run_bind, Sem.run_pure, Result.andThen_ok, run_program, hfn]
          have h2 : Oper.quietUpon P (fun w' => Sat W0 w' H) w v (.ok (.enter g (first ++ args.map ρ ++ captured)) w) :=
            ⟨rfl, this.mono fun e w' ⟨u, H', he, ⟨hu, hH⟩, hs⟩ => ⟨by rw [he, hu], by rw [← hH]; exact hs⟩⟩
          simpa [hc.2, hb] using h2
        · cases hc
      · exact he.elim
    · exact quiet (by rw [hop]; exact he)
  | _ => exact quiet (by rw [hop]; exact he)

theorem eopsQ_ok {P : Program} {N : Nat} {W0 : World} {ops : Array Oper} (hN : opsOk N ops.toList = true) {K : St → Prop} {Q : Act → Prop} {H : Heap} (hQ : ∀ s a, K s → s.heap = H → (∀ w, Sat W0 w H → Rel N W0 s a w) → Q a) :
    ∀ (l : List Oper), (∀ o ∈ l, o ∈ ops.toList) → ∀ (s : St) (a : Act), eopsQ P ops l K s → s.heap = H → (∀ w, Sat W0 w H → Rel N W0 s a w) → (∃ w, Sat W0 w H) → wpQuiet P ops (fun w => Sat W0 w H) Q l a
  | [], _, s, a, h, hH, hr, _ => hQ s a h hH hr
  | o :: rest, hm, s, a, h, hH, hr, ⟨w0, hw0⟩ => by
    have hr0 := hr w0 hw0
    have hw := wantE_eq hr0 hN o
    have hd := opsOk_dst hN (hm o (by simp))
    unfold wpQuiet
    rw [hw]
    unfold eopsQ at h
    by_cases hwt : wantE ops s o = true
    · rw [if_pos hwt]
      obtain ⟨v, hk, hv⟩ := eopQ_ok (W0 := W0) (h.1 hwt)
      refine ⟨v, fun w hsat => ?_, ?_⟩
      · unfold Oper.quietAt
        rw [hr0.eval]
        rw [hH] at hv
        exact hv w hsat
      · exact eopsQ_ok hN hQ rest (fun o ho => hm o (by simp [ho])) _ _ hk (by cases o.dst <;> exact hH) (fun w hs => (hr w hs).put o.dst hd v (by rw [hH]; exact hs)) ⟨w0, hw0⟩
    · rw [if_neg hwt]
      exact eopsQ_ok hN hQ rest (fun o ho => hm o (by simp [ho])) _ _ (h.2 (by simpa using hwt)) (by cases o.dst <;> exact hH) (fun w hs => (hr w hs).put o.dst hd undef (by rw [hH]; exact hs)) ⟨w0, hw0⟩

/-! ### A region that draws its order, told in the order of the text -/
def isQ (P : Program) (op : Op) : Bool :=
  match op with
  | .alloc _ | .box .. | .store .. | .makeSlice .. | .buildSlice .. | .makeMap .. | .lookup .. | .mapUpdate .. | .range .. | .next .. | .entry .. => false
  | .convert s d _ => match und P s, und P d with
    | .str, .slice _ => false
    | .slice _, .slice _ => false
    | _, _ => true
  | .call c => match c.callee with
    | .builtin .len | .builtin .min | .builtin .max => true
    | _ => false
  | _ => true

theorem eop_isQ {P : Program} {ρ : Operand → Value} {o : Oper} {H : Heap} {K : Kont} (hq : isQ P o.op = true) (h : eop P ρ o H K) : ∃ v, qop P ρ o.op H = some v ∧ K v H := by
  unfold eop at h
  unfold isQ at hq
  cases hop : o.op with
  | convert s d x =>
    simp only [hop] at h hq
    split at h
    · rename_i e b hs hd hx
      rw [hs, hd] at hq
      cases hq
    · rename_i e0 e a n c hs hd hx
      rw [hs, hd] at hq
      cases hq
    · exact h
  | call c =>
    obtain ⟨callee, args, ats⟩ := c
    simp only [hop] at h hq
    split at hq
    · simp only at h; exact h
    · simp only at h; exact h
    · simp only at h; exact h
    · cases hq
  | alloc t => rw [hop] at hq; cases hq
  | box t x => rw [hop] at hq; cases hq
  | store t a x => rw [hop] at hq; cases hq
  | makeSlice t l c => rw [hop] at hq; cases hq
  | buildSlice t n ps => rw [hop] at hq; cases hq
  | makeMap t r => rw [hop] at hq; cases hq
  | lookup t x k ok => rw [hop] at hq; cases hq
  | mapUpdate t m k x => rw [hop] at hq; cases hq
  | range t x => rw [hop] at hq; cases hq
  | next it b => rw [hop] at hq; cases hq
  | entry it => rw [hop] at hq; cases hq
  | _ => rw [hop] at h; exact h

theorem eops_still {P : Program} {N : Nat} {W0 : World} {ops : Array Oper} (hN : opsOk N ops.toList = true) {K : St → Prop} {w : World} {r : List Oper} :
    ∀ (l : List Oper), (∀ o ∈ l, o ∈ ops.toList) → (∀ o ∈ l, isQ P o.op = true) → ∀ (s : St) (a : Act), eops P ops (l ++ r) K s → Rel N W0 s a w →
      wpStill P ops w (fun a' => ∃ s', eops P ops r K s' ∧ Rel N W0 s' a' w) l a
  | [], _, _, s, a, h, hr => ⟨s, h, hr⟩
  | o :: l, hm, hq, s, a, h, hr => by
    have hw := wantE_eq hr hN o
    have hd := opsOk_dst hN (hm o (by simp))
    unfold wpStill
    rw [hw]
    simp only [List.cons_append, eops] at h
    have ih := eops_still (P := P) (W0 := W0) (K := K) (w := w) (r := r) hN l (fun o ho => hm o (by simp [ho])) (fun o ho => hq o (by simp [ho]))
    by_cases hwt : wantE ops s o = true
    · rw [if_pos hwt]
      obtain ⟨v, hv, hk⟩ := eop_isQ (hq o (by simp)) (h.1 hwt)
      unfold Oper.still
      rw [hr.eval, qop_ok hr.sat hv]
      exact ⟨rfl, ih _ _ hk (hr.put o.dst hd v hr.sat)⟩
    · rw [if_neg hwt]
      exact ih _ _ (h.2 (by simpa using hwt)) (hr.put o.dst hd undef hr.sat)

theorem eops_quiet {P : Program} {N : Nat} {ops : Array Oper} (hN : opsOk N ops.toList = true) {K : St → Prop} {H : Heap} :
    ∀ (l : List Oper), (∀ o ∈ l, isQ P o.op = true) → ∀ (s : St), s.heap = H → eops P ops l K s → eopsQ P ops l (fun s => K s) s
  | [], _, s, _, h => h
  | o :: l, hq, s, hH, h => by
    simp only [eops] at h
    simp only [eopsQ]
    have ih := eops_quiet (P := P) (K := K) (H := H) hN l (fun o ho => hq o (by simp [ho]))
    refine ⟨fun hwt => ?_, fun hwt => ih _ (by cases o.dst <;> exact hH) (h.2 hwt)⟩
    obtain ⟨v, hv, hk⟩ := eop_isQ (hq o (by simp)) (h.1 hwt)
    have : ∃ v, qop P s.eval o.op s.heap = some v ∧ eopsQ P ops l (fun s => K s) (s.put o.dst v s.heap) := ⟨v, hv, ih _ (by cases o.dst <;> exact hH) hk⟩
    have hq' := hq o (by simp)
    unfold eopQ
    unfold isQ at hq'
    cases hop : o.op with
    | call c =>
      obtain ⟨callee, args, ats⟩ := c
      rw [hop] at hq' this
      simp only at hq' ⊢
      split at hq'
      · exact this
      · exact this
      · exact this
      · cases hq'
    | _ => rw [hop] at this; exact this

/-- May the region be told in the order of its text? -/
def drawOk (P : Program) (ops : Array Oper) : Bool :=
  (Region.lexB .any ops && ops.toList.all fun o => isQ P o.op) || (List.range ops.size).any fun n => Region.lexTailB .any ops n && (ops.toList.take n).all fun o => isQ P o.op

theorem draw_ok {P : Program} {N : Nat} {W0 : World} {id : Nat} {ops : Array Oper} (hm : P.follows .mixedOrders = true) (hd : drawOk P ops = true) (hN : opsOk N ops.toList = true) {K : St → Prop} {Q : Exit → Act → World → Prop}
    (hQ : ∀ s a w, K s → Rel N W0 s a w → Q .normal a w) {s : St} {a : Act} {w : World} (h : eops P ops ops.toList K s) (hr : Rel N W0 s a w) : (Code.region id ops true).wp P Q a w := by
  unfold drawOk at hd
  rw [Bool.or_eq_true] at hd
  rcases hd with hd | hd
  · rw [Bool.and_eq_true] at hd
    refine wp_region_quiet (C := fun w' => Sat W0 w' s.heap) hm hd.1 (hr.sat.drawn _) ?_
    exact eopsQ_ok hN (H := s.heap) (fun s' a' hk hH hr' w' hs' => hQ s' a' w' hk (hr' w' hs')) ops.toList (fun _ h => h) s a (eops_quiet hN ops.toList (fun o ho => (List.all_eq_true.1 hd.2) o ho) s rfl h) rfl (fun w' hs' => ⟨hr.defers, hr.size, hr.env, hs'⟩) ⟨w, hr.sat⟩
  · rw [List.any_eq_true] at hd
    obtain ⟨n, _, hn⟩ := hd
    rw [Bool.and_eq_true] at hn
    have e : ops = ops.toList.toArray := by simp
    rw [e]
    rw [e] at hn
    refine wp_region_still_tail n hm hn.1 ?_
    have hr' : Rel N W0 s a { w with drawn := w.drawn + 1 } := ⟨hr.defers, hr.size, hr.env, hr.sat.drawn _⟩
    have h' : eops P ops (ops.toList.take n ++ ops.toList.drop n) K s := by rw [List.take_append_drop]; exact h
    have := eops_still (P := P) (r := ops.toList.drop n) hN (ops.toList.take n) (fun o ho => List.mem_of_mem_take ho) (fun o ho => (List.all_eq_true.1 hn.2) o (by simpa using ho)) s a h' hr'
    rw [← e]
    have hmono : ∀ (l : List Oper) (a : Act), wpStill P ops { w with drawn := w.drawn + 1 } (fun a' => ∃ s', eops P ops (ops.toList.drop n) K s' ∧ Rel N W0 s' a' { w with drawn := w.drawn + 1 }) l a →
        wpStill P ops { w with drawn := w.drawn + 1 } (fun a' => wpList P ops Q (ops.toList.drop n) a' { w with drawn := w.drawn + 1 }) l a := by
      intro l
      induction l with
      | nil => intro a ⟨s', hs', hrs⟩; exact eops_ok hN hQ _ (fun o ho => List.mem_of_mem_drop ho) s' a _ hs' hrs
      | cons o l ih =>
        intro a ha
        unfold wpStill at ha ⊢
        split
        · rename_i hw; rw [if_pos hw] at ha; exact Oper.still_mono ih ha
        · rename_i hw; rw [if_neg hw] at ha; exact ih _ ha
    exact hmono _ _ this
end Go.Proofs.YtfpighmafofoeaaDoor.GL
