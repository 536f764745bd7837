/- A region that draws its order, told by what each operation gives: one obligation for each operation, however many orders there are. -/
import Derived.Test.YtfpighmafofoeaaDoorGlL
namespace Go.Proofs.YtfpighmafofoeaaDoor.GL
open Go Go.RowKit
set_option linter.unusedSimpArgs false
set_option linter.unusedVariables false

def setB (g : Nat → Bool) (i : Nat) : Nat → Bool := fun j => if j = i then true else g j
theorem setB_at (g : Nat → Bool) (i j : Nat) : setB g i j = if j = i then true else g j := Eq.trans rfl rfl
def dstsOf (ops : Array Oper) : List Nat := ops.toList.filterMap (·.dst)
/-- what an operation looks at is of this region only where it waits for it; it waits for earlier ones only -/
def closedOne (ops : Array Oper) (i : Nat) : Bool := match ops[i]? with
  | some o => ((o.looksAt ops).all fun t => !(dstsOf ops).contains t || o.after.any fun e => Region.binds .any e && ((ops[e.on]?).bind (·.dst) == some t)) && o.after.all fun e => !Region.binds .any e || decide (e.on < i)
  | none => true
def closedB (ops : Array Oper) : Bool := (List.range ops.size).all (closedOne ops)

theorem joinP_all {P : Program} {ops : Array Oper} {K : St → Prop} {s : St} : ∀ {l : List Plan}, l ≠ [] → (∀ t ∈ l, eopsP P ops t K s) → eopsP P ops (joinP l) K s
  | [], h, _ => absurd rfl h
  | [a], _, he => he a (by simp)
  | a :: b :: r, _, he => by
    unfold joinP eopsP
    exact ⟨he a (by simp), joinP_all (by simp) fun t ht => he t (List.mem_cons_of_mem _ ht)⟩

theorem plan_inv {P : Program} {ops : Array Oper} {Inv : Array Bool → St → Prop} {K : St → Prop}
    (hstep : ∀ L i s, i ∈ Region.ready .any ops L → Inv L s → runI P ops i (Inv (L.setIfInBounds i true)) s)
    (hend : ∀ L s, Region.ready .any ops L = [] → Inv L s → K s) :
    ∀ n L s, left ops L = n → Inv L s → eopsP P ops (plan P ops n L) K s
  | 0, L, s, hn, hi => hend L s (by
      rw [List.eq_nil_iff_forall_not_mem]
      intro i hm
      have := left_pos hm
      omega) hi
  | n + 1, L, s, hn, hi => by
    cases hf : (Region.ready .any ops L).find? (floats P ops) with
    | some i =>
      rw [plan_some hf]
      have hr := List.mem_of_find?_eq_some hf
      have hl := left_set hr
      exact runI_mono (fun s' hs' => plan_inv hstep hend n _ s' (by omega) hs') (hstep L i s hr hi)
    | none =>
      rw [plan_none hf]
      by_cases hnil : Region.ready .any ops L = []
      · rw [hnil]; exact hend L s hnil hi
      · refine joinP_all (by simpa using hnil) fun t ht => ?_
        obtain ⟨i, hr, rfl⟩ := List.mem_map.1 ht
        have hl := left_set hr
        exact runI_mono (fun s' hs' => plan_inv hstep hend n _ s' (by omega) hs') (hstep L i s hr hi)

theorem want_congr {ops : Array Oper} {o : Oper} {s s' : St} (h : ∀ t ∈ o.looksAt ops, s.env t = s'.env t) : wantE ops s o = wantE ops s' o := by
  unfold wantE
  cases hg : o.guard with
  | none => rfl
  | some g =>
    obtain ⟨j, want⟩ := g
    simp only
    cases hd : (ops[j]?).bind (·.dst) with
    | none => rfl
    | some d =>
      simp only
      rw [h d (by unfold Oper.looksAt; rw [List.mem_append]; right; rw [hg]; simp [hd])]

def EndV {C : Type} (e : C → Nat → Value) (I : C → (Nat → Bool) → Heap → Prop) (c : C) (o : Option Nat) (g : Nat → Bool) (s : St) : Prop :=
  ∃ c', (∀ d, o = some d → s.env d = e c' d) ∧ (∀ t, o ≠ some t → e c' t = e c t) ∧ I c' g s.heap
def stepV (P : Program) (ops : Array Oper) {C : Type} (e : C → Nat → Value) (I : C → (Nat → Bool) → Heap → Prop) (i : Nat) (o : Oper) : Prop :=
  ∀ c g H, g i = false → (∀ x ∈ o.after.toList, Region.binds .any x = true → g x.on = true) → I c g H → eops P ops [o] (EndV e I c o.dst (setB g i)) ⟨e c, H⟩
def allFrom (f : Nat → Oper → Prop) : Nat → List Oper → Prop
  | _, [] => True
  | i, o :: r => f i o ∧ allFrom f (i + 1) r
theorem allFrom_get {f : Nat → Oper → Prop} : ∀ {l : List Oper} {k j : Nat} {o : Oper}, allFrom f k l → l[j]? = some o → f (k + j) o
  | [], _, _, _, _, h => by simp at h
  | a :: r, k, 0, o, h, hj => by simp at hj; subst hj; exact h.1
  | a :: r, k, j + 1, o, h, hj => by
    have := allFrom_get h.2 (by simpa using hj)
    rw [show k + (j + 1) = k + 1 + j by omega]; exact this
theorem allFrom_cons {f : Nat → Oper → Prop} {i : Nat} {o : Oper} {r : List Oper} : allFrom f i (o :: r) = (f i o ∧ allFrom f (i + 1) r) := Eq.trans rfl rfl
theorem allFrom_nil {f : Nat → Oper → Prop} {i : Nat} : allFrom f i [] = True := Eq.trans rfl rfl
theorem endV_same {C : Type} {e : C → Nat → Value} {I : C → (Nat → Bool) → Heap → Prop} {c : C} {o : Option Nat} {g : Nat → Bool} {s : St} (h1 : ∀ d, o = some d → s.env d = e c d) (h2 : I c g s.heap) : EndV e I c o g s := ⟨c, h1, fun _ _ => rfl, h2⟩
theorem endV_to {C : Type} {e : C → Nat → Value} {I : C → (Nat → Bool) → Heap → Prop} {c : C} (c' : C) {o : Option Nat} {g : Nat → Bool} {s : St} (h1 : ∀ d, o = some d → s.env d = e c' d) (h3 : ∀ t, o ≠ some t → e c' t = e c t) (h2 : I c' g s.heap) : EndV e I c o g s := ⟨c', h1, h3, h2⟩

def putAll (e : Nat → Value) : List Oper → List Value → Nat → Value
  | o :: os, v :: vs => putAll (match o.dst with | some d => setE e d v | none => e) os vs
  | _, _ => e
theorem putAll_out {t : Nat} : ∀ {os : List Oper} {vs : List Value} {e : Nat → Value}, t ∉ os.filterMap (·.dst) → putAll e os vs t = e t
  | [], _, _, _ => by simp [putAll]
  | o :: os, [], _, _ => by simp [putAll]
  | o :: os, v :: vs, e, h => by
    unfold putAll
    cases hd : o.dst with
    | none =>
      rw [List.filterMap_cons_none hd] at h
      rw [putAll_out h]
    | some d =>
      rw [List.filterMap_cons_some hd, List.mem_cons, not_or] at h
      rw [putAll_out h.2]
      simp [setE, h.1]

theorem w_vals {P : Program} {ops : Array Oper} {K : Post} {id : Nat} {s : St} {C : Type} (hm : P.follows .mixedOrders = true) (hcl : closedB ops = true) (vals : C → List Value) (I : C → (Nat → Bool) → Heap → Prop) (c0 : C)
    (h0 : I c0 (fun _ => false) s.heap)
    (hs : allFrom (stepV P ops (fun c => putAll s.env ops.toList (vals c)) I) 0 ops.toList)
    (hend : ∀ c g H, (∀ i, i < ops.size → g i = true) → I c g H → K .normal ⟨putAll s.env ops.toList (vals c), H⟩ ) : ewp P (.region id ops true) K s := by
  have hrun : eopsP P ops (planOf P ops) (K .normal) s := by
    let e : C → Nat → Value := fun c => putAll s.env ops.toList (vals c)
    have hout : ∀ c t, t ∉ dstsOf ops → e c t = s.env t := fun c t ht => putAll_out ht
    refine plan_inv (Inv := fun L s' => ∃ c, (∀ t, t ∉ dstsOf ops → s'.env t = e c t) ∧ (∀ j o d, ops[j]? = some o → o.dst = some d → L.getD j false = true → s'.env d = e c d) ∧ L.size = ops.size ∧ I c (fun j => L.getD j false) s'.heap) ?_ ?_ _ _ _ ?_ ?_
    · rintro L i s' hr ⟨c, hA, hB, hsz, hI⟩
      obtain ⟨hi0, o, ho, haf⟩ := mem_ready.1 hr
      have hi : i < ops.size := (Array.getElem?_eq_some_iff.1 ho).1
      have hclo := List.all_eq_true.1 hcl i (List.mem_range.2 hi)
      unfold closedOne at hclo
      rw [ho] at hclo
      simp only [Bool.and_eq_true] at hclo
      have hlook : ∀ t ∈ o.looksAt ops, s'.env t = e c t := by
        intro t ht
        have h := List.all_eq_true.1 hclo.1 t ht
        rw [Bool.or_eq_true] at h
        rcases h with h | h
        · exact hA t (by simpa using h)
        · obtain ⟨x, hx, hb⟩ := Array.any_eq_true'.1 h
          rw [Bool.and_eq_true, beq_iff_eq] at hb
          obtain ⟨q, hq, hqd⟩ := Option.bind_eq_some_iff.1 hb.2
          exact hB _ q t hq hqd (haf x hx hb.1)
      have hg0 : L.getD i false = false := by
        have hL : i < L.size := by omega
        simp only [Array.getD_eq_getD_getElem?] at hi0 ⊢
        rw [Array.getElem?_eq_getElem hL] at hi0 ⊢
        exact hi0
      have hstep : eops P ops [o] (EndV e I c o.dst (setB (fun j => L.getD j false) i)) ⟨e c, s'.heap⟩ := by
        have := allFrom_get hs (by simpa using ho)
        rw [Nat.zero_add] at this
        exact this c _ s'.heap hg0 (fun x hx hb => haf x (Array.mem_toList_iff.1 hx) hb) hI
      have hw : wantE ops s' o = wantE ops ⟨e c, s'.heap⟩ o := want_congr hlook
      have hev : ∀ x ∈ o.op.operands, (St.mk (e c) s'.heap).eval x = s'.eval x := by
        intro x hx
        cases x with
        | tmp t =>
          refine (hlook t ?_).symm
          unfold Oper.looksAt
          rw [List.mem_append]
          exact .inl (List.mem_filterMap.2 ⟨_, Array.mem_toList_iff.2 hx, rfl⟩)
        | _ => rfl
      have hfin : ∀ v H', EndV e I c o.dst (setB (fun j => L.getD j false) i) ((St.mk (e c) s'.heap).put o.dst v H') →
          (∃ c, (∀ t, t ∉ dstsOf ops → (s'.put o.dst v H').env t = e c t) ∧ (∀ j q d, ops[j]? = some q → q.dst = some d → (L.setIfInBounds i true).getD j false = true → (s'.put o.dst v H').env d = e c d) ∧ (L.setIfInBounds i true).size = ops.size ∧ I c (fun j => (L.setIfInBounds i true).getD j false) (s'.put o.dst v H').heap) := by
        rintro v H' ⟨c', h1, h2, h3⟩
        rw [put_heap] at h3
        have hmem : ∀ d, o.dst = some d → d ∈ dstsOf ops := fun d hd => by
          unfold dstsOf
          exact List.mem_filterMap.2 ⟨o, Array.mem_toList_iff.2 (Array.mem_of_getElem? ho), hd⟩
        have hother : ∀ t, o.dst ≠ some t → (s'.put o.dst v H').env t = s'.env t := fun t ht => by
          cases hd : o.dst with
          | none => rfl
          | some d =>
            have : t ≠ d := fun e => ht (by rw [hd, e])
            simp [St.put, setE, this]
        refine ⟨c', fun t ht => ?_, fun j q d hq hqd hg => ?_, by simpa using hsz, ?_⟩
        · have hne : o.dst ≠ some t := fun hd => ht (hmem t hd)
          rw [hother t hne, hA t ht, h2 t hne]
        · by_cases hd : o.dst = some d
          · have := h1 d hd
            rw [hd] at this ⊢
            simpa [St.put] using this
          · rw [hother d hd, h2 d hd]
            by_cases hij : i = j
            · subst hij
              rw [ho] at hq
              cases hq
              exact absurd hqd hd
            · rw [getD_set_ne false hij] at hg
              exact hB j q d hq hqd hg
        · rw [put_heap]
          have : (fun j => (L.setIfInBounds i true).getD j false) = setB (fun j => L.getD j false) i := by
            funext j
            unfold setB
            by_cases hij : j = i
            · subst hij
              have hL : j < L.size := by omega
              simp [hL]
            · rw [getD_set_ne false (Ne.symm hij), if_neg hij]
          rw [this]; exact h3
      unfold runI
      rw [ho]
      refine ⟨fun hwt => ?_, fun hwf => ?_⟩
      · have he := eop_congr hev (hstep.1 (by rw [← hw]; exact hwt))
        exact eop_mono (fun v H' hk => hfin v H' hk) he
      · exact hfin _ _ (hstep.2 (by rw [← hw]; exact hwf))
    · rintro L s' hnil ⟨c, hA, hB, hsz, hI⟩
      have hall : ∀ i, i < ops.size → L.getD i false = true := by
        intro i
        induction i using Nat.strongRecOn with
        | _ i ih =>
          intro hi
          have hL : i < L.size := by omega
          by_cases h1 : L.getD i true = true
          · simp only [Array.getD_eq_getD_getElem?] at h1 ⊢
            rw [Array.getElem?_eq_getElem hL] at h1 ⊢
            exact h1
          · exfalso
            have hmem : i ∈ Region.ready .any ops L := by
              refine mem_ready.2 ⟨by simpa using h1, ops[i], Array.getElem?_eq_getElem hi, fun x hx hb => ?_⟩
              have hclo := List.all_eq_true.1 hcl i (List.mem_range.2 hi)
              unfold closedOne at hclo
              rw [Array.getElem?_eq_getElem hi] at hclo
              simp only [Bool.and_eq_true] at hclo
              have h2 := Array.all_eq_true_iff_forall_mem.1 hclo.2 x hx
              rw [hb] at h2
              have h3 : x.on < i := by simpa using h2
              exact ih _ h3 (by omega)
            rw [hnil] at hmem
            cases hmem
      have henv : s'.env = e c := by
        funext t
        by_cases ht : t ∈ dstsOf ops
        · obtain ⟨o, ho, hd⟩ := List.mem_filterMap.1 ht
          obtain ⟨j, hj⟩ := Array.mem_iff_getElem?.1 (Array.mem_toList_iff.1 ho)
          exact hB j o t hj hd (hall j (Array.getElem?_eq_some_iff.1 hj).1)
        · exact hA t ht
      have hK := hend c _ s'.heap hall hI
      obtain ⟨e', H'⟩ := s'
      simp only at henv
      subst henv
      exact hK
    · unfold left
      have : ((List.range ops.size).filter fun i => !(Array.replicate ops.size false).getD i true) = List.range ops.size := by
        rw [List.filter_eq_self]
        intro i hi
        have := List.mem_range.1 hi
        simp [this]
      rw [this, List.length_range]
    · refine ⟨c0, fun t ht => (hout c0 t ht).symm, fun j o d _ _ hg => ?_, by simp, ?_⟩
      · exfalso
        by_cases hj : j < ops.size
        · simp [hj] at hg
        · simp [hj] at hg
      · have : (fun j => (Array.replicate ops.size false).getD j false) = fun _ => false := by
          funext j
          by_cases hj : j < ops.size <;> simp [hj]
        rw [this]; exact h0
  simp [ewp, hm, hrun]
theorem putAll_cons {e : Nat → Value} {o : Oper} {os : List Oper} {v : Value} {vs : List Value} : putAll e (o :: os) (v :: vs) = putAll (match o.dst with | some d => setE e d v | none => e) os vs := Eq.trans rfl rfl
theorem putAll_nil {e : Nat → Value} : putAll e [] [] = e := Eq.trans rfl rfl
end Go.Proofs.YtfpighmafofoeaaDoor.GL
