/- A region that draws its order: a first part of operations that only make new things, in any order, told each by what it gives; then the others, in the order of the text. -/
import Derived.Test.YtfpighmafofoeaaDoorGlV
namespace Go.Proofs.YtfpighmafofoeaaDoor.GL
open Go Go.RowKit
set_option linter.unusedSimpArgs false
set_option linter.unusedVariables false

/-- The slots ds as f tells, the others as they were. -/
def mixE (ds : List Nat) (f env : Nat → Value) : Nat → Value := fun t => if t ∈ ds then f t else env t
theorem mixE_at {ds : List Nat} {f env : Nat → Value} {t : Nat} : mixE ds f env t = if t ∈ ds then f t else env t := Eq.trans rfl rfl
def ancB (ops : Array Oper) : Nat → Nat → Nat → Bool
  | 0, _, _ => false
  | k + 1, j, i => match ops[i]? with
    | some o => o.after.any fun x => Region.binds .any x && (x.on == j || ancB ops k j x.on)
    | none => false
def downB (ops : Array Oper) (g : Nat → Bool) : Prop := ∀ i o, g i = true → ops[i]? = some o → ∀ x ∈ o.after, Region.binds .any x = true → g x.on = true
theorem anc_done {ops : Array Oper} {g : Nat → Bool} (hd : downB ops g) : ∀ (k j i : Nat), ancB ops k j i = true → (∀ o, ops[i]? = some o → ∀ x ∈ o.after, Region.binds .any x = true → g x.on = true) → g j = true
  | 0, _, _, h, _ => by cases h
  | k + 1, j, i, h, ha => by
    unfold ancB at h
    split at h
    · rename_i o ho
      obtain ⟨x, hx, hb⟩ := Array.any_eq_true'.1 h
      rw [Bool.and_eq_true, Bool.or_eq_true, beq_iff_eq] at hb
      have hg := ha o ho x hx hb.1
      rcases hb.2 with e | e
      · rw [← e]; exact hg
      · exact anc_done hd k j x.on e fun o' ho' x' hx' hb' => hd x.on o' hg ho' x' hx' hb'
    · cases h
def dstsTo (ops : Array Oper) (n : Nat) : List Nat := (ops.toList.take n).filterMap (·.dst)
def nodupB : List Nat → Bool
  | [] => true
  | x :: r => !r.contains x && nodupB r
def growB (ops : Array Oper) (n : Nat) (ds : List Nat) : Bool :=
  closedB ops && decide (n ≤ ops.size) && decide (dstsTo ops n = ds) && nodupB (dstsOf ops) &&
  (decide (n = ops.size) || (List.range n).all fun j => ancB ops n j n) &&
  (List.range ops.size).all fun i => decide (i ≤ n) || ancB ops 3 (i - 1) i
def aftA (A : Nat → Value → Heap → Prop) (ops : Array Oper) (f : Nat → Value) (H : Heap) : List Edge → Prop
  | [] => True
  | x :: r => (Region.binds .any x = true → match (ops[x.on]?).bind (·.dst) with | some d => A x.on (f d) H | none => True) ∧ aftA A ops f H r
def stepG (P : Program) (ops : Array Oper) (ds : List Nat) (A : Nat → Value → Heap → Prop) (env : Nat → Value) (H0 : Heap) (i : Nat) (o : Oper) : Prop :=
  ∀ (f : Nat → Value) (H : Heap), Heap.le H0 H → aftA A ops f H o.after.toList →
    eops P ops [o] (fun s' => Heap.le H s'.heap ∧ match o.dst with | some d => A i (s'.env d) s'.heap | none => True) ⟨mixE ds f env, H⟩
def doneA (A : Nat → Value → Heap → Prop) (f : Nat → Value) (H : Heap) (i : Nat) (o : Oper) : Prop := match o.dst with | some d => A i (f d) H | none => True
theorem aftA_of {A : Nat → Value → Heap → Prop} {ops : Array Oper} {f : Nat → Value} {H : Heap} : ∀ {l : List Edge}, (∀ x ∈ l, Region.binds .any x = true → ∀ q d, ops[x.on]? = some q → q.dst = some d → A x.on (f d) H) → aftA A ops f H l
  | [], _ => trivial
  | x :: r, h => by
    refine ⟨fun hb => ?_, aftA_of fun y hy => h y (by simp [hy])⟩
    cases hq : ops[x.on]? with
    | none => simp
    | some q =>
      simp only [Option.bind_some]
      cases hd : q.dst with
      | none => trivial
      | some d => exact h x (by simp) hb q d hq hd
theorem allFrom_of {f : Nat → Oper → Prop} : ∀ {l : List Oper} {k : Nat}, (∀ j o, l[j]? = some o → f (k + j) o) → allFrom f k l
  | [], _, _ => trivial
  | a :: r, k, h => ⟨h 0 a (by simp), allFrom_of fun j o ho => by
      have := h (j + 1) o (by simpa using ho)
      rw [show k + 1 + j = k + (j + 1) by omega]; exact this⟩
theorem nodup_at : ∀ {l : List Oper}, nodupB (l.filterMap (·.dst)) = true → ∀ {i j : Nat} {o q : Oper} {d : Nat}, l[i]? = some o → l[j]? = some q → o.dst = some d → q.dst = some d → i = j
  | [], _, _, _, _, _, _, hi, _, _, _ => by simp at hi
  | a :: l, hn, i, j, o, q, d, hi, hj, ho, hq => by
    have hrest : nodupB (l.filterMap (·.dst)) = true := by
      cases ha : a.dst with
      | none => rwa [List.filterMap_cons_none ha] at hn
      | some x =>
        rw [List.filterMap_cons_some ha] at hn
        simp only [nodupB, Bool.and_eq_true] at hn
        exact hn.2
    have hno : ∀ (k : Nat) (p : Oper), a.dst = some d → l[k]? = some p → p.dst = some d → False := fun k p ha hk hp => by
      rw [List.filterMap_cons_some ha] at hn
      simp only [nodupB, Bool.and_eq_true, Bool.not_eq_true', List.contains_eq_mem, decide_eq_false_iff_not] at hn
      exact hn.1 (List.mem_filterMap.2 ⟨p, List.mem_of_getElem? hk, hp⟩)
    cases i with
    | zero =>
      simp at hi; subst hi
      cases j with
      | zero => rfl
      | succ j => exact (hno j q ho (by simpa using hj) hq).elim
    | succ i =>
      cases j with
      | zero => simp at hj; subst hj; exact (hno i o hq (by simpa using hi) ho).elim
      | succ j => exact congrArg (· + 1) (nodup_at (l := l) hrest (i := i) (j := j) (o := o) (q := q) (d := d) (by simpa using hi) (by simpa using hj) ho hq)

theorem w_grow {P : Program} {ops : Array Oper} {K : Post} {id : Nat} {env : Nat → Value} {H0 : Heap} (hm : P.follows .mixedOrders = true) (n : Nat) (ds : List Nat) (A : Nat → Value → Heap → Prop) (hok : growB ops n ds = true)
    (hA : ∀ i v H H', Heap.le H H' → A i v H → A i v H')
    (hs : allFrom (stepG P ops ds A env H0) 0 (ops.toList.take n))
    (hend : ∀ f H, Heap.le H0 H → allFrom (doneA A f H) 0 (ops.toList.take n) → eops P ops (ops.toList.drop n) (K .normal) ⟨mixE ds f env, H⟩) : ewp P (.region id ops true) K ⟨env, H0⟩ := by
  unfold growB at hok
  simp only [Bool.and_eq_true, Bool.or_eq_true, decide_eq_true_eq] at hok
  obtain ⟨⟨⟨⟨⟨hcl, hn⟩, hds⟩, hnd⟩, hall⟩, htail⟩ := hok
  have hmem : ∀ {i : Nat} {o : Oper} {d : Nat}, ops[i]? = some o → i < n → o.dst = some d → d ∈ ds := fun {i o d} ho hi hd => by
    rw [← hds]
    exact List.mem_filterMap.2 ⟨o, List.mem_of_getElem? (i := i) (by rw [List.getElem?_take_of_lt hi]; simpa using ho), hd⟩
  have hnot : ∀ {i : Nat} {o : Oper} {d : Nat}, ops[i]? = some o → n ≤ i → o.dst = some d → d ∉ ds := fun {i o d} ho hi hd hm => by
    rw [← hds] at hm
    obtain ⟨q, hq, hqd⟩ := List.mem_filterMap.1 hm
    obtain ⟨j, hj⟩ := List.mem_iff_getElem?.1 hq
    have hjn : j < n := by
      have := (List.getElem?_eq_some_iff.1 hj).1
      simp at this; omega
    rw [List.getElem?_take_of_lt hjn] at hj
    have := nodup_at (l := ops.toList) hnd (i := i) (j := j) (by simpa using ho) hj hd hqd
    omega
  have hclo : ∀ {i : Nat} {o : Oper}, ops[i]? = some o → closedOne ops i = true := fun {i o} ho => List.all_eq_true.1 hcl i (List.mem_range.2 (Array.getElem?_eq_some_iff.1 ho).1)
  have hrun : eopsP P ops (planOf P ops) (K .normal) ⟨env, H0⟩ := by
    refine plan_inv (Inv := fun L s => L.size = ops.size ∧ downB ops (fun j => L.getD j false) ∧
      (((∀ i, n ≤ i → L.getD i false = false) ∧ (∃ j, j < n ∧ L.getD j false = false) ∧ Heap.le H0 s.heap ∧ (∀ t, t ∉ ds → s.env t = env t) ∧ ∀ i o d, i < n → L.getD i false = true → ops[i]? = some o → o.dst = some d → A i (s.env d) s.heap) ∨
       ∃ m, n ≤ m ∧ m ≤ ops.size ∧ (∀ i, i < m → L.getD i false = true) ∧ (∀ i, m ≤ i → L.getD i false = false) ∧ eops P ops (ops.toList.drop m) (K .normal) s)) ?_ ?_ _ _ _ ?_ ?_
    · rintro L i s hr ⟨hsz, hdn, hI⟩
      obtain ⟨hi0, o, ho, haf⟩ := mem_ready.1 hr
      have hi : i < ops.size := (Array.getElem?_eq_some_iff.1 ho).1
      have hiL : i < L.size := by omega
      have hg0 : L.getD i false = false := by
        simp only [Array.getD_eq_getD_getElem?] at hi0 ⊢
        rw [Array.getElem?_eq_getElem hiL] at hi0 ⊢
        exact hi0
      have haf' : ∀ o', ops[i]? = some o' → ∀ x ∈ o'.after, Region.binds .any x = true → L.getD x.on false = true := fun o' ho' x hx hb => by
        rw [ho] at ho'; cases ho'
        exact haf x hx hb
      have hset : ∀ j, (L.setIfInBounds i true).getD j false = if j = i then true else L.getD j false := fun j => by
        by_cases hij : j = i
        · subst hij; simp [hiL]
        · rw [getD_set_ne false (Ne.symm hij), if_neg hij]
      have hdn' : downB ops (fun j => (L.setIfInBounds i true).getD j false) := fun j q hj hq x hx hb => by
        simp only [hset] at hj ⊢
        by_cases hij : j = i
        · subst hij
          split
          · rfl
          · exact haf' q hq x hx hb
        · rw [if_neg hij] at hj
          split
          · rfl
          · exact hdn j q hj hq x hx hb
      rcases hI with ⟨hlate, hj0, hle, hout, hin⟩ | ⟨m, hm1, hm2, hmd, hmn, hops⟩
      · have hin' : i < n := by
          rcases Nat.lt_or_ge i n with h | h
          · exact h
          · exfalso
            rcases Nat.eq_or_lt_of_le h with e | e
            · subst e
              obtain ⟨j, hj, hjf⟩ := hj0
              rcases hall with e | hall
              · omega
              · have := anc_done (g := fun j => L.getD j false) hdn _ _ _ (List.all_eq_true.1 hall j (List.mem_range.2 hj)) haf'
                rw [hjf] at this; cases this
            · have h2 := List.all_eq_true.1 htail i (List.mem_range.2 hi)
              rw [Bool.or_eq_true, decide_eq_true_eq] at h2
              rcases h2 with h2 | h2
              · omega
              · have := anc_done (g := fun j => L.getD j false) hdn _ _ _ h2 haf'
                rw [hlate (i - 1) (by omega)] at this; cases this
        have hclo' := hclo ho
        unfold closedOne at hclo'
        rw [ho] at hclo'
        simp only [Bool.and_eq_true] at hclo'
        have henv : ∀ t, t ∉ ds → mixE ds s.env env t = s.env t := fun t ht => by rw [mixE_at, if_neg ht, hout t ht]
        have henv' : mixE ds s.env env = s.env := by
          funext t
          by_cases ht : t ∈ ds
          · rw [mixE_at, if_pos ht]
          · exact henv t ht
        have hstep : stepG P ops ds A env H0 i o := by
          have := allFrom_get hs (j := i) (o := o) (by rw [List.getElem?_take_of_lt hin']; simpa using ho)
          rwa [Nat.zero_add] at this
        have hst := hstep s.env s.heap hle (aftA_of fun x hx hb q d hq hd => by
          have hx' : x ∈ o.after := Array.mem_toList_iff.1 hx
          have h2 := Array.all_eq_true_iff_forall_mem.1 hclo'.2 x hx'
          rw [hb] at h2
          have h3 : x.on < i := by simpa using h2
          exact hin x.on q d (by omega) (haf x hx' hb) hq hd)
        rw [henv'] at hst
        have hfin : ∀ v H', Heap.le s.heap H' → (∀ d, o.dst = some d → A i v H') →
            ((L.setIfInBounds i true).size = ops.size ∧ downB ops (fun j => (L.setIfInBounds i true).getD j false) ∧
      (((∀ i', n ≤ i' → (L.setIfInBounds i true).getD i' false = false) ∧ (∃ j, j < n ∧ (L.setIfInBounds i true).getD j false = false) ∧ Heap.le H0 (s.put o.dst v H').heap ∧ (∀ t, t ∉ ds → (s.put o.dst v H').env t = env t) ∧ ∀ i' o' d, i' < n → (L.setIfInBounds i true).getD i' false = true → ops[i']? = some o' → o'.dst = some d → A i' ((s.put o.dst v H').env d) (s.put o.dst v H').heap) ∨
       ∃ m, n ≤ m ∧ m ≤ ops.size ∧ (∀ i', i' < m → (L.setIfInBounds i true).getD i' false = true) ∧ (∀ i', m ≤ i' → (L.setIfInBounds i true).getD i' false = false) ∧ eops P ops (ops.toList.drop m) (K .normal) (s.put o.dst v H'))) := by
          intro v H' hl hAv
          refine ⟨by simpa using hsz, hdn', ?_⟩
          have hlate' : ∀ i', n ≤ i' → (L.setIfInBounds i true).getD i' false = false := fun i' hi' => by
            rw [hset, if_neg (by omega)]; exact hlate i' hi'
          have hle' : Heap.le H0 (s.put o.dst v H').heap := by rw [put_heap]; exact Heap.le_trans hle hl
          have hout' : ∀ t, t ∉ ds → (s.put o.dst v H').env t = env t := fun t ht => by
            cases hd : o.dst with
            | none => exact hout t ht
            | some d =>
              have : t ≠ d := fun e => ht (by rw [e]; exact hmem ho hin' hd)
              simp [St.put, setE, this, hout t ht]
          have hin2 : ∀ i' o' d, i' < n → (L.setIfInBounds i true).getD i' false = true → ops[i']? = some o' → o'.dst = some d → A i' ((s.put o.dst v H').env d) (s.put o.dst v H').heap := fun i' o' d hi' hg' ho' hd' => by
            rw [put_heap]
            by_cases hii : i' = i
            · subst hii
              rw [ho] at ho'; cases ho'
              rw [hd']
              simp only [St.put, setE, if_true]
              exact hAv d hd'
            · rw [hset, if_neg hii] at hg'
              have hne : (s.put o.dst v H').env d = s.env d := by
                cases hd : o.dst with
                | none => rfl
                | some d2 =>
                  have : d ≠ d2 := fun e => by
                    subst e
                    exact hii (nodup_at (l := ops.toList) hnd (i := i') (j := i) (by simpa using ho') (by simpa using ho) hd' hd)
                  simp [St.put, setE, this]
              rw [hne]
              exact hA _ _ _ _ hl (hin i' o' d hi' hg' ho' hd')
          by_cases hlast : ∃ j, j < n ∧ (L.setIfInBounds i true).getD j false = false
          · exact .inl ⟨hlate', hlast, hle', hout', hin2⟩
          · have hdone : ∀ j, j < n → (L.setIfInBounds i true).getD j false = true := fun j hj => by
              cases e : (L.setIfInBounds i true).getD j false with
              | true => rfl
              | false => exact absurd ⟨j, hj, e⟩ hlast
            refine .inr ⟨n, Nat.le_refl _, hn, hdone, hlate', ?_⟩
            have he : mixE ds (s.put o.dst v H').env env = (s.put o.dst v H').env := by
              funext t
              by_cases ht : t ∈ ds
              · rw [mixE_at, if_pos ht]
              · rw [mixE_at, if_neg ht, hout' t ht]
            have := hend (s.put o.dst v H').env (s.put o.dst v H').heap hle' (allFrom_of fun j q hq => by
              rw [Nat.zero_add]
              have hjn : j < n := by
                have := (List.getElem?_eq_some_iff.1 hq).1
                simp at this; omega
              rw [List.getElem?_take_of_lt hjn] at hq
              unfold doneA
              cases hd : q.dst with
              | none => trivial
              | some d => exact hin2 j q d hjn (hdone j hjn) (by simpa using hq) hd)
            rw [he] at this
            exact this
        unfold runI
        rw [ho]
        have hkey : ∀ v H', (Heap.le s.heap (s.put o.dst v H').heap ∧ match o.dst with | some d => A i ((s.put o.dst v H').env d) (s.put o.dst v H').heap | none => True) → Heap.le s.heap H' ∧ (∀ d, o.dst = some d → A i v H') := fun v H' h => by
          rw [put_heap] at h
          refine ⟨h.1, fun d hd => ?_⟩
          have h2 := h.2
          rw [hd] at h2
          simpa [St.put, setE] using h2
        exact ⟨fun hwt => eop_mono (fun v H' hk => hfin v H' (hkey v H' hk).1 (hkey v H' hk).2) (hst.1 hwt), fun hwf => hfin _ _ (hkey _ _ (hst.2 hwf)).1 (hkey _ _ (hst.2 hwf)).2⟩
      · have hmi : m = i := by
          have h1 : m ≤ i := by
            rcases Nat.lt_or_ge i m with h | h
            · rw [hmd i h] at hg0; cases hg0
            · exact h
          rcases Nat.eq_or_lt_of_le h1 with e | e
          · exact e
          · exfalso
            have h2 := List.all_eq_true.1 htail i (List.mem_range.2 hi)
            rw [Bool.or_eq_true, decide_eq_true_eq] at h2
            rcases h2 with h2 | h2
            · omega
            · have := anc_done (g := fun j => L.getD j false) hdn _ _ _ h2 haf'
              rw [hmn (i - 1) (by omega)] at this; cases this
        subst hmi
        have hd : ops.toList.drop m = o :: ops.toList.drop (m + 1) := by
          rw [List.drop_eq_getElem_cons (by simpa using hi)]
          congr 1
          have := Array.getElem?_eq_some_iff.1 ho
          simpa using this.2
        rw [hd] at hops
        have hfin : ∀ v H', eops P ops (ops.toList.drop (m + 1)) (K .normal) (s.put o.dst v H') → ((L.setIfInBounds m true).size = ops.size ∧ downB ops (fun j => (L.setIfInBounds m true).getD j false) ∧
      (((∀ i', n ≤ i' → (L.setIfInBounds m true).getD i' false = false) ∧ (∃ j, j < n ∧ (L.setIfInBounds m true).getD j false = false) ∧ Heap.le H0 (s.put o.dst v H').heap ∧ (∀ t, t ∉ ds → (s.put o.dst v H').env t = env t) ∧ ∀ i' o' d, i' < n → (L.setIfInBounds m true).getD i' false = true → ops[i']? = some o' → o'.dst = some d → A i' ((s.put o.dst v H').env d) (s.put o.dst v H').heap) ∨
       ∃ m2, n ≤ m2 ∧ m2 ≤ ops.size ∧ (∀ i', i' < m2 → (L.setIfInBounds m true).getD i' false = true) ∧ (∀ i', m2 ≤ i' → (L.setIfInBounds m true).getD i' false = false) ∧ eops P ops (ops.toList.drop m2) (K .normal) (s.put o.dst v H'))) := fun v H' h => by
          refine ⟨by simpa using hsz, hdn', .inr ⟨m + 1, by omega, by omega, fun i' hi' => ?_, fun i' hi' => ?_, h⟩⟩
          · rw [hset]
            split
            · rfl
            · exact hmd i' (by omega)
          · rw [hset, if_neg (by omega)]; exact hmn i' (by omega)
        unfold runI
        rw [ho]
        exact ⟨fun hwt => eop_mono (fun v H' hk => hfin v H' hk) (hops.1 hwt), fun hwf => hfin _ _ (hops.2 hwf)⟩
    · rintro L s hnil ⟨hsz, hdn, hI⟩
      have hallD : ∀ i, i < ops.size → L.getD i false = true := by
        intro i
        induction i using Nat.strongRecOn with
        | _ i ih =>
          intro hi
          have hL : i < L.size := by omega
          by_cases h1 : L.getD i true = true
          · simp only [Array.getD_eq_getD_getElem?] at h1 ⊢
            rw [Array.getElem?_eq_getElem hL] at h1 ⊢
            exact h1
          · exfalso
            have hmem : i ∈ Region.ready .any ops L := by
              refine mem_ready.2 ⟨by simpa using h1, ops[i], Array.getElem?_eq_getElem hi, fun x hx hb => ?_⟩
              have hclo' := hclo (Array.getElem?_eq_getElem hi)
              unfold closedOne at hclo'
              rw [Array.getElem?_eq_getElem hi] at hclo'
              simp only [Bool.and_eq_true] at hclo'
              have h2 := Array.all_eq_true_iff_forall_mem.1 hclo'.2 x hx
              rw [hb] at h2
              have h3 : x.on < i := by simpa using h2
              exact ih _ h3 (by omega)
            rw [hnil] at hmem
            cases hmem
      rcases hI with ⟨_, ⟨j, hj, hjf⟩, _⟩ | ⟨m, hm1, hm2, hmd, hmn, hops⟩
      · rw [hallD j (by omega)] at hjf; cases hjf
      · have hms : m = ops.size := by
          rcases Nat.eq_or_lt_of_le hm2 with e | e
          · exact e
          · have := hallD m e
            rw [hmn m (Nat.le_refl _)] at this; cases this
        subst hms
        rw [List.drop_of_length_le (by simp)] at hops
        exact hops
    · unfold left
      have : ((List.range ops.size).filter fun i => !(Array.replicate ops.size false).getD i true) = List.range ops.size := by
        rw [List.filter_eq_self]
        intro i hi
        have := List.mem_range.1 hi
        simp [this]
      rw [this, List.length_range]
    · have hrep : ∀ j, (Array.replicate ops.size false).getD j false = false := fun j => by
        by_cases hj : j < ops.size <;> simp [hj]
      refine ⟨by simp, fun i o h => ?_, ?_⟩
      · simp only [hrep] at h; cases h
      · by_cases h0 : n = 0
        · subst h0
          refine .inr ⟨0, Nat.le_refl _, Nat.zero_le _, fun i hi => absurd hi (Nat.not_lt_zero _), fun i _ => hrep i, ?_⟩
          have hd0 : ds = [] := by rw [← hds]; simp [dstsTo]
          have := hend env H0 (Heap.le_refl _) trivial
          have he : mixE ds env env = env := by funext t; rw [mixE_at]; split <;> rfl
          rw [he] at this
          exact this
        · exact .inl ⟨fun i _ => hrep i, ⟨0, by omega, hrep 0⟩, Heap.le_refl _, fun _ _ => rfl, fun i o d _ hg => by rw [hrep] at hg; cases hg⟩
  simp [ewp, hm, hrun]

/-! ### The same, where most values are known ahead -/
inductive GP where
  | eq (v : Value)
  | as (p : Value → Heap → Prop) (mono : ∀ v H H', Heap.le H H' → p v H → p v H')
def GP.ok : GP → Value → Heap → Prop
  | .eq w, v, _ => v = w
  | .as p _, v, H => p v H
def GP.known : GP → Value → Heap → Prop
  | .eq _, _, _ => True
  | .as p _, v, H => p v H
def GP.val : GP → Value → Value
  | .eq w, _ => w
  | .as _ _, v => v
theorem GP.ok_mono (g : GP) {v : Value} {H H' : Heap} (hl : Heap.le H H') (h : g.ok v H) : g.ok v H' := by
  cases g with
  | eq w => exact h
  | as p m => exact m _ _ _ hl h
theorem GP.ok_known {g : GP} {v : Value} {H : Heap} (h : g.ok v H) : g.known v H ∧ g.val v = v := by
  cases g with
  | eq w => exact ⟨trivial, by simp only [GP.val]; exact Eq.symm h⟩
  | as p m => exact ⟨h, rfl⟩
def mixL : List Nat → List GP → (Nat → Value) → (Nat → Value) → Nat → Value
  | d :: ds, g :: gs, f, env, t => if t = d then g.val (f d) else mixL ds gs f env t
  | _, _, _, env, t => env t
def okD (g : GP) (d : Option Tmp) (s : St) : Prop := match d with | some d => g.ok (s.env d) s.heap | none => True
def gpA (gs : List GP) (i : Nat) (v : Value) (H : Heap) : Prop := match gs[i]? with | some g => g.ok v H | none => True
def gpK (gs : List GP) (i : Nat) (v : Value) (H : Heap) : Prop := match gs[i]? with | some g => g.known v H | none => True
def stepL (P : Program) (ops : Array Oper) (ds : List Nat) (gs : List GP) (env : Nat → Value) (H0 : Heap) (g : GP) (o : Oper) : Prop :=
  ∀ (f : Nat → Value) (H : Heap), Heap.le H0 H → aftA (gpK gs) ops f H o.after.toList → eops P ops [o] (fun s' => Heap.le H s'.heap ∧ okD g o.dst s') ⟨mixL ds gs f env, H⟩
def allL (f : GP → Oper → Prop) : List GP → List Oper → Prop
  | g :: gs, o :: os => f g o ∧ allL f gs os
  | _, _ => True
def knownL (f : Nat → Value) (H : Heap) : List Nat → List GP → Prop
  | d :: ds, g :: gs => g.known (f d) H ∧ knownL f H ds gs
  | _, _ => True
theorem mixL_out : ∀ {ds : List Nat} {gs : List GP} {f env : Nat → Value} {t : Nat}, t ∉ ds → mixL ds gs f env t = env t
  | [], _, _, _, _, _ => rfl
  | d :: ds, [], _, _, _, _ => rfl
  | d :: ds, g :: gs, f, env, t, h => by
    simp only [List.mem_cons, not_or] at h
    simp only [mixL, if_neg h.1]
    exact mixL_out h.2
theorem mixL_in : ∀ {ds : List Nat} {gs : List GP} {f env : Nat → Value} {t : Nat} {H : Heap} {i : Nat}, nodupB ds = true → ds.length = gs.length → ds[i]? = some t → gpA gs i (f t) H → mixL ds gs f env t = f t
  | [], _, _, _, _, _, _, _, _, h, _ => by simp at h
  | d :: ds, [], _, _, _, _, _, _, hl, _, _ => by simp at hl
  | d :: ds, g :: gs, f, env, t, H, 0, _, _, h, ha => by
    simp at h; subst h
    simp only [gpA, List.getElem?_cons_zero] at ha
    simp only [mixL, if_true]
    exact (GP.ok_known ha).2
  | d :: ds, g :: gs, f, env, t, H, i + 1, hn, hl, h, ha => by
    simp only [nodupB, Bool.and_eq_true, Bool.not_eq_true', List.contains_eq_mem, decide_eq_false_iff_not] at hn
    simp at h
    have hne : t ≠ d := fun e => hn.1 (by rw [← e]; exact List.mem_of_getElem? h)
    simp only [mixL, if_neg hne]
    simp only [gpA, List.getElem?_cons_succ] at ha
    exact mixL_in (i := i) hn.2 (by simpa using hl) h ha
theorem allL_get {f : GP → Oper → Prop} : ∀ {gs : List GP} {os : List Oper} {j : Nat} {g : GP} {o : Oper}, allL f gs os → gs[j]? = some g → os[j]? = some o → f g o
  | [], _, _, _, _, _, h, _ => by simp at h
  | _ :: _, [], _, _, _, _, _, h => by simp at h
  | a :: gs, b :: os, 0, g, o, h, hg, ho => by simp at hg ho; subst hg ho; exact h.1
  | a :: gs, b :: os, j + 1, g, o, h, hg, ho => allL_get h.2 (by simpa using hg) (by simpa using ho)
theorem knownL_of {f : Nat → Value} {H : Heap} : ∀ {ds : List Nat} {gs : List GP}, (∀ (i : Nat) (d : Nat) (g : GP), ds[i]? = some d → gs[i]? = some g → g.known (f d) H) → knownL f H ds gs
  | [], _, _ => trivial
  | d :: ds, [], _ => trivial
  | d :: ds, g :: gs, h => ⟨h 0 d g (by simp) (by simp), knownL_of fun i d' g' hd hg => h (i + 1) d' g' (by simpa using hd) (by simpa using hg)⟩
def growL (ops : Array Oper) (n : Nat) (ds : List Nat) : Bool := growB ops n ds && decide ((ops.toList.take n).map (·.dst) = ds.map some) && nodupB ds
theorem w_growL {P : Program} {ops : Array Oper} {K : Post} {id : Nat} {env : Nat → Value} {H0 : Heap} (hm : P.follows .mixedOrders = true) (n : Nat) (ds : List Nat) (gs : List GP) (hok : growL ops n ds = true) (hg : gs.length = ds.length)
    (hs : allL (stepL P ops ds gs env H0) gs (ops.toList.take n))
    (hend : ∀ f H, Heap.le H0 H → knownL f H ds gs → eops P ops (ops.toList.drop n) (K .normal) ⟨mixL ds gs f env, H⟩) : ewp P (.region id ops true) K ⟨env, H0⟩ := by
  unfold growL at hok
  simp only [Bool.and_eq_true, decide_eq_true_eq] at hok
  obtain ⟨⟨hok1, hdst⟩, hnd⟩ := hok
  have hok2 := hok1
  unfold growB at hok2
  simp only [Bool.and_eq_true, Bool.or_eq_true, decide_eq_true_eq] at hok2
  obtain ⟨⟨⟨⟨⟨hcl, hn⟩, hds⟩, hndA⟩, _⟩, _⟩ := hok2
  have hat : ∀ (j : Nat) (o : Oper), (ops.toList.take n)[j]? = some o → ∃ d, o.dst = some d ∧ ds[j]? = some d := fun j o ho => by
    have h1 : ((ops.toList.take n).map (·.dst))[j]? = some o.dst := by rw [List.getElem?_map, ho]; rfl
    rw [hdst, List.getElem?_map] at h1
    cases hd : ds[j]? with
    | none => rw [hd] at h1; simp at h1
    | some d => rw [hd] at h1; simp at h1; exact ⟨d, h1.symm, rfl⟩
  have hlen : ds.length = n := by
    have h1 := congrArg List.length hdst
    simp at h1; omega
  refine w_grow hm n ds (gpA gs) hok1 (fun i v H H' hl h => ?_) (allFrom_of fun j o ho => ?_) (fun f H hl hd => ?_)
  · unfold gpA at h ⊢
    split
    · rename_i g e; rw [e] at h; exact g.ok_mono hl h
    · trivial
  · rw [Nat.zero_add]
    obtain ⟨d, hd1, hd2⟩ := hat j o ho
    have hj : j < n := by
      have := (List.getElem?_eq_some_iff.1 hd2).1
      omega
    obtain ⟨g, hg'⟩ : ∃ g, gs[j]? = some g := ⟨_, List.getElem?_eq_getElem (by omega)⟩
    have hst := allL_get hs hg' ho
    intro f H hl ha
    have hoj : ops[j]? = some o := by rw [List.getElem?_take_of_lt hj] at ho; simpa using ho
    have hclo := List.all_eq_true.1 hcl j (List.mem_range.2 (Array.getElem?_eq_some_iff.1 hoj).1)
    unfold closedOne at hclo
    rw [hoj] at hclo
    simp only [Bool.and_eq_true] at hclo
    have haft : ∀ {l : List Edge}, aftA (gpA gs) ops f H l → aftA (gpK gs) ops f H l := fun {l} => by
      induction l with
      | nil => exact fun h => h
      | cons x r ih =>
        intro h
        refine ⟨fun hb => ?_, ih h.2⟩
        have h1 := h.1 hb
        split at h1
        · unfold gpA at h1
          unfold gpK
          split at h1
          · exact (GP.ok_known h1).1
          · trivial
        · trivial
    have haft2 : ∀ {l : List Edge}, aftA (gpA gs) ops f H l → ∀ x ∈ l, Region.binds .any x = true → ∀ t, (ops[x.on]?).bind (·.dst) = some t → gpA gs x.on (f t) H := fun {l} => by
      induction l with
      | nil => intro _ x hx; cases hx
      | cons y r ih =>
        intro h x hx hb t ht
        rcases List.mem_cons.1 hx with rfl | hx
        · have h1 := h.1 hb
          rw [ht] at h1
          exact h1
        · exact ih h.2 x hx hb t ht
    have h1 := hst f H hl (haft ha)
    have hlook : ∀ t ∈ o.looksAt ops, mixE ds f env t = mixL ds gs f env t := fun t ht => by
      have h := List.all_eq_true.1 hclo.1 t ht
      rw [Bool.or_eq_true] at h
      rcases h with h | h
      · have hnm : t ∉ ds := fun hm2 => by
          rw [← hds] at hm2
          obtain ⟨q, hq, hqd⟩ := List.mem_filterMap.1 hm2
          have : t ∈ dstsOf ops := List.mem_filterMap.2 ⟨q, List.mem_of_mem_take hq, hqd⟩
          rw [Bool.not_eq_true'] at h
          have h2 : t ∉ dstsOf ops := by simpa using h
          exact h2 this
        rw [mixE_at, if_neg hnm, mixL_out hnm]
      · obtain ⟨x, hx, hb⟩ := Array.any_eq_true'.1 h
        rw [Bool.and_eq_true, beq_iff_eq] at hb
        have h2 := Array.all_eq_true_iff_forall_mem.1 hclo.2 x hx
        rw [hb.1] at h2
        have h3 : x.on < j := by simpa using h2
        obtain ⟨q, hq, hqd⟩ := Option.bind_eq_some_iff.1 hb.2
        have hqt : (ops.toList.take n)[x.on]? = some q := by rw [List.getElem?_take_of_lt (by omega)]; simpa using hq
        obtain ⟨d2, hd3, hd4⟩ := hat x.on q hqt
        rw [hqd] at hd3; cases hd3
        rw [mixE_at, if_pos (List.mem_of_getElem? hd4)]
        exact (mixL_in hnd (by omega) hd4 (haft2 ha x (Array.mem_toList_iff.2 hx) hb.1 t hb.2)).symm
    have hw : wantE ops ⟨mixE ds f env, H⟩ o = wantE ops ⟨mixL ds gs f env, H⟩ o := want_congr hlook
    have hev : ∀ x ∈ o.op.operands, (St.mk (mixL ds gs f env) H).eval x = (St.mk (mixE ds f env) H).eval x := by
      intro x hx
      cases x with
      | tmp t =>
        refine (hlook t ?_).symm
        unfold Oper.looksAt
        rw [List.mem_append]
        exact .inl (List.mem_filterMap.2 ⟨_, Array.mem_toList_iff.2 hx, rfl⟩)
      | _ => rfl
    have hfin : ∀ v H', (Heap.le H ((St.mk (mixL ds gs f env) H).put o.dst v H').heap ∧ okD g o.dst ((St.mk (mixL ds gs f env) H).put o.dst v H')) →
        (Heap.le H ((St.mk (mixE ds f env) H).put o.dst v H').heap ∧ match o.dst with | some d => gpA gs j (((St.mk (mixE ds f env) H).put o.dst v H').env d) ((St.mk (mixE ds f env) H).put o.dst v H').heap | none => True) := fun v H' h => by
      rw [put_heap] at h ⊢
      refine ⟨h.1, ?_⟩
      have h2 := h.2
      rw [hd1] at h2 ⊢
      simp only [okD, St.put, setE, if_true] at h2
      simp only [St.put, setE, if_true]
      unfold gpA
      rw [hg']
      exact h2
    exact ⟨fun hwt => eop_mono (fun v H' hk => hfin v H' hk) (eop_congr hev (h1.1 (by rw [← hw]; exact hwt))), fun hwf => hfin _ _ (h1.2 (by rw [← hw]; exact hwf))⟩
  · have hdone : ∀ (j d : Nat), ds[j]? = some d → gpA gs j (f d) H := fun j d hj => by
      have hjn : j < n := by
        have := (List.getElem?_eq_some_iff.1 hj).1
        omega
      obtain ⟨o, ho⟩ : ∃ o, (ops.toList.take n)[j]? = some o := ⟨_, List.getElem?_eq_getElem (by simp; omega)⟩
      obtain ⟨d2, h1, h2⟩ := hat j o ho
      rw [hj] at h2; cases h2
      have := allFrom_get hd ho
      rw [Nat.zero_add] at this
      unfold doneA at this
      rw [h1] at this
      exact this
    have he : mixL ds gs f env = mixE ds f env := by
      funext t
      by_cases ht : t ∈ ds
      · obtain ⟨j, hj⟩ := List.mem_iff_getElem?.1 ht
        rw [mixE_at, if_pos ht]
        exact mixL_in hnd (by omega) hj (hdone j t hj)
      · rw [mixE_at, if_neg ht, mixL_out ht]
    rw [← he]
    refine hend f H hl (knownL_of fun i d g hd2 hg2 => ?_)
    have := hdone i d hd2
    unfold gpA at this
    rw [hg2] at this
    exact (GP.ok_known this).1
section
variable {d t i : Nat} {ds : List Nat} {g : GP} {gs : List GP} {f env : Nat → Value} {v w : Value} {H : Heap} {s : St} {P : Program} {ops : Array Oper} {A : Nat → Value → Heap → Prop} {G : Ground} {r : List Edge} {p : Value → Heap → Prop} {m : ∀ v H H', Heap.le H H' → p v H → p v H'}
theorem mixL_cons : mixL (d :: ds) (g :: gs) f env t = if t = d then g.val (f d) else mixL ds gs f env t := Eq.trans rfl rfl
theorem mixL_nil : mixL [] gs f env t = env t := Eq.trans rfl rfl
theorem gp_ok_eq : GP.ok (.eq w) v H = (v = w) := Eq.trans rfl rfl
theorem gp_ok_as : GP.ok (.as p m) v H = p v H := Eq.trans rfl rfl
theorem gp_known_eq : GP.known (.eq w) v H = True := Eq.trans rfl rfl
theorem gp_known_as : GP.known (.as p m) v H = p v H := Eq.trans rfl rfl
theorem gp_val_eq : GP.val (.eq w) v = w := Eq.trans rfl rfl
theorem gp_val_as : GP.val (.as p m) v = v := Eq.trans rfl rfl
theorem okD_some : okD g (some d) s = g.ok (s.env d) s.heap := Eq.trans rfl rfl
theorem gpK_zero : gpK (g :: gs) 0 v H = g.known v H := by simp [gpK]
theorem gpK_succ : gpK (g :: gs) (i + 1) v H = gpK gs i v H := by simp [gpK]
theorem gpK_nil : gpK [] i v H = True := by simp [gpK]
theorem aftA_nil : aftA A ops f H [] = True := Eq.trans rfl rfl
theorem aftA_cons {x : Edge} : aftA A ops f H (x :: r) = ((Region.binds .any x = true → match (ops[x.on]?).bind (·.dst) with | some d => A x.on (f d) H | none => True) ∧ aftA A ops f H r) := Eq.trans rfl rfl
theorem binds_data : Region.binds .any ⟨i, .data⟩ = true := rfl
theorem binds_chain : Region.binds .any ⟨i, .chain⟩ = true := rfl
theorem binds_guard : Region.binds .any ⟨i, .guard⟩ = true := rfl
theorem binds_phase : Region.binds .any ⟨i, .phase⟩ = true := rfl
theorem allL_cons {f : GP → Oper → Prop} {o : Oper} {os : List Oper} : allL f (g :: gs) (o :: os) = (f g o ∧ allL f gs os) := Eq.trans rfl rfl
theorem allL_nil {f : GP → Oper → Prop} {os : List Oper} : allL f [] os = True := Eq.trans rfl rfl
theorem knownL_cons : knownL f H (d :: ds) (g :: gs) = (g.known (f d) H ∧ knownL f H ds gs) := Eq.trans rfl rfl
theorem knownL_nil : knownL f H [] gs = True := Eq.trans rfl rfl
end
attribute [simp] mixE_at mixL_cons mixL_nil gp_ok_eq gp_ok_as gp_known_eq gp_known_as gp_val_eq gp_val_as okD_some gpK_zero gpK_succ gpK_nil aftA_nil aftA_cons binds_data binds_chain binds_guard binds_phase allL_cons allL_nil knownL_cons knownL_nil
/-- What a slice of bytes holds. -/
def SVa (H : Heap) (v : Value) (bs : List UInt8) : Prop := ∃ a n c, v = .slice a n c ∧ SlA H a n 1 (bs.map u8V)
theorem SVa.le {H H' : Heap} {v : Value} {bs : List UInt8} (h : SVa H v bs) (hl : Heap.le H H') : SVa H' v bs := by
  obtain ⟨a, n, c, e, h⟩ := h
  exact ⟨a, n, c, e, h.le hl⟩
theorem SVa.out {H H' : Heap} {v : Value} {n : Nat} {bs : List UInt8} (h : Out H H' v 1 n (bs.map u8V)) : SVa H' v bs := by
  obtain ⟨a, c, e, hs⟩ := h.sl
  exact ⟨a, n, c, e, hs⟩
abbrev GP.out (H : Heap) (s n : Nat) (cs : List Value) : GP := .as (fun v H' => Out H H' v s n cs) fun _ _ _ hl h => h.up hl
abbrev GP.sva (bs : List UInt8) : GP := .as (fun v H' => SVa H' v bs) fun _ _ _ hl h => h.le hl
abbrev GP.new (H : Heap) (cs : List Value) (f : Nat → Value) : GP := .as (fun v H' => ∃ b, v = f b ∧ H b = none ∧ H' b = some (.row true 0 cs 0)) fun _ _ _ hl ⟨b, e, h0, h1⟩ => ⟨b, e, h0, hl _ _ h1⟩
end Go.Proofs.YtfpighmafofoeaaDoor.GL
