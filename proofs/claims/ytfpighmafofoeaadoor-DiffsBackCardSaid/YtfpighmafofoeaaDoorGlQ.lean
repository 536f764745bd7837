/- Running code over (slots, heap): 'ewp', by the code's own structure; and that it tells no more than the model does. A function's contract out of its body. -/
import Derived.Test.YtfpighmafofoeaaDoorGlP
namespace Go.Proofs.YtfpighmafofoeaaDoor.GL
open Go Go.RowKit
set_option linter.unusedSimpArgs false
set_option linter.unusedVariables false

/-! ### Code -/
abbrev Post := Exit → St → Prop

def Kseq (next : St → Prop) (K : Post) : Post
  | .normal, s => next s
  | e, s => K e s
def Kblock (id : Nat) (K : Post) : Post
  | .exit i, s => if i = id then K .normal s else K (.exit i) s
  | e, s => K e s
def Kloop (I : St → Prop) (μ : St → Nat) (n : Nat) (K : Post) : Post
  | .normal, s => ∃ H, Heap.le H s.heap ∧ I ⟨s.env, H⟩ ∧ μ ⟨s.env, H⟩ < n
  | e, s => K e s

def ewp (P : Program) : Code → Post → St → Prop
  | .skip, K, s => K .normal s
  | .region _ ops d, K, s => if d then P.follows .mixedOrders = true ∧ ((drawOk P ops = true ∧ eops P ops ops.toList (K .normal) s) ∨ (Region.lexB .any ops = true ∧ eopsQ P ops ops.toList (K .normal) s) ∨ eopsP P ops (planOf P ops) (K .normal) s) else eops P ops ops.toList (K .normal) s
  | .seq a b, K, s => ewp P a (Kseq (ewp P b K) K) s
  | .cond c a b, K, s => match s.eval c with
    | .bool t => (t = true → ewp P a K s) ∧ (t = false → ewp P b K s)
    | _ => False
  | .block id b, K, s => ewp P b (Kblock id K) s
  | .loop b, K, s => ∃ (I : St → Prop) (μ : St → Nat), I s ∧ ∀ s1, I s1 → ewp P b (Kloop I μ (μ s1) K) s1
  | .exit id, K, s => K (.exit id) s
  | .ret, K, s => K .ret s
  | _, _, _ => False

def codeOk (N : Nat) : Code → Bool
  | .region _ ops _ => opsOk N ops.toList
  | .seq a b => codeOk N a && codeOk N b
  | .cond _ a b => codeOk N a && codeOk N b
  | .block _ b => codeOk N b
  | .loop b => codeOk N b
  | _ => true

theorem Rel.le {N : Nat} {W0 : World} {s : St} {a : Act} {w : World} {H : Heap} (h : Rel N W0 s a w) (hl : Heap.le H s.heap) : Rel N W0 ⟨s.env, H⟩ a w := ⟨h.defers, h.size, h.env, h.sat.le hl⟩

/-- What the model says where 'ewp' says K. -/
def Told (N : Nat) (W0 : World) (K : Post) : Exit → Act → World → Prop := fun e a w => ∃ s, K e s ∧ Rel N W0 s a w

theorem ewp_ok {P : Program} {N : Nat} {W0 : World} : ∀ (c : Code) (K : Post) (s : St) (a : Act) (w : World), codeOk N c = true → ewp P c K s → Rel N W0 s a w → c.wp P (Told N W0 K) a w
  | .skip, K, s, a, w, _, h, hr => wp_skip ⟨s, h, hr⟩
  | .region id ops d, K, s, a, w, hN, h, hr => by
    cases d
    · simp only [ewp, Bool.false_eq_true, if_false] at h
      exact wp_region_list (eops_ok hN (fun s a w hk hr => ⟨s, hk, hr⟩) ops.toList (fun _ h => h) s a w h hr)
    · simp only [ewp, if_true] at h
      obtain ⟨hm, h⟩ := h
      rcases h with ⟨hd, h⟩ | ⟨hB, h⟩ | h
      · exact draw_ok hm hd hN (fun s a w hk hr => ⟨s, hk, hr⟩) h hr
      rotate_left
      · exact draw_plan hm hN (fun s a w hk hr => ⟨s, hk, hr⟩) h hr
      refine wp_region_quiet (C := fun w' => Sat W0 w' s.heap) hm hB (hr.sat.drawn _) ?_
      exact eopsQ_ok hN (H := s.heap) (fun s' a' hk hH hr' w' hs' => ⟨s', hk, hr' w' hs'⟩) ops.toList (fun _ h => h) s a h rfl (fun w' hs' => ⟨hr.defers, hr.size, hr.env, hs'⟩) ⟨w, hr.sat⟩
  | .seq x y, K, s, a, w, hN, h, hr => by
    simp only [codeOk, Bool.and_eq_true] at hN
    have h1 := ewp_ok x _ s a w hN.1 h hr
    refine wp_seq (wp_mono h1 fun e a' w' hq => ?_)
    obtain ⟨s', hk, hr'⟩ := hq
    cases e with
    | normal => exact ewp_ok y K s' a' w' hN.2 hk hr'
    | _ => exact ⟨s', hk, hr'⟩
  | .cond c x y, K, s, a, w, hN, h, hr => by
    simp only [codeOk, Bool.and_eq_true] at hN
    simp only [ewp] at h
    split at h
    · rename_i t ht
      refine wp_cond_split (t := t) (by rw [hr.eval]; exact ht) (fun h1 => ewp_ok x K s a w hN.1 (h.1 h1) hr) (fun h1 => ewp_ok y K s a w hN.2 (h.2 h1) hr)
    · exact h.elim
  | .block id b, K, s, a, w, hN, h, hr => by
    refine wp_block (wp_mono (ewp_ok b _ s a w hN h hr) fun e a' w' hq => ?_)
    obtain ⟨s', hk, hr'⟩ := hq
    cases e with
    | exit i =>
      simp only [Exit.inBlock, Kblock] at hk ⊢
      split
      · rename_i hi; rw [if_pos hi] at hk; exact ⟨s', hk, hr'⟩
      · rename_i hi; rw [if_neg hi] at hk; exact ⟨s', hk, hr'⟩
    | _ => exact ⟨s', hk, hr'⟩
  | .loop b, K, s, a, w, hN, h, hr => by
    obtain ⟨I, μ, h0, hround⟩ := h
    intro fr k cs
    have key : ∀ n s a w, μ s = n → I s → Rel N W0 s a w →
        ∃ e a' w', Told N W0 K e a' w' ∧ Arrives P (lone (fr.at a (.code b :: .inLoop b :: k)) cs w) fr k cs e a' w' := by
      intro n
      induction n using Nat.strongRecOn with
      | _ n ih =>
        intro s a w hn hI hr
        obtain ⟨e, a₁, w₁, hq, harr⟩ := ewp_ok b _ s a w hN (hround s hI) hr fr (.inLoop b :: k) cs
        obtain ⟨s₁, hk, hr₁⟩ := hq
        cases e with
        | normal =>
          obtain ⟨H, hle, hI₁, hlt⟩ := hk
          obtain ⟨e₂, a₂, w₂, hq₂, harr₂⟩ := ih (μ ⟨s₁.env, H⟩) (hn ▸ hlt) _ a₁ w₁ rfl hI₁ (hr₁.le hle)
          exact ⟨e₂, a₂, w₂, hq₂, .of_steps (Steps.trans harr (.one step_inLoop)) harr₂⟩
        | exit id => exact ⟨_, a₁, w₁, ⟨s₁, hk, hr₁⟩, .pass (x := .inLoop b) rfl (fun _ _ => .inl (by simp)) harr⟩
        | goto l => exact ⟨_, a₁, w₁, ⟨s₁, hk, hr₁⟩, .pass (x := .inLoop b) rfl (fun _ _ => .inl (by simp)) harr⟩
        | ret => exact ⟨_, a₁, w₁, ⟨s₁, hk, hr₁⟩, .pass (x := .inLoop b) rfl (fun _ _ => .inl (by simp)) harr⟩
        | panic ch => exact ⟨_, a₁, w₁, ⟨s₁, hk, hr₁⟩, .pass (x := .inLoop b) rfl (fun _ _ => .inl (by simp)) harr⟩
        | outgrown => exact ⟨_, a₁, w₁, ⟨s₁, hk, hr₁⟩, .pass (x := .inLoop b) rfl (fun _ _ => .inl (by simp)) harr⟩
    obtain ⟨e, a', w', hq, harr⟩ := key _ s a w rfl h0 hr
    exact ⟨e, a', w', hq, .of_steps (.one step_loop) harr⟩
  | .exit id, K, s, a, w, _, h, hr => wp_exit ⟨s, h, hr⟩
  | .ret, K, s, a, w, _, h, hr => wp_ret ⟨s, h, hr⟩
  | .scope _, _, _, _, _, _, h, _ => h.elim
  | .rangeFunc .., _, _, _, _, _, h, _ => h.elim
  | .label _, _, _, _, _, _, h, _ => h.elim
  | .goto _, _, _, _, _, _, h, _ => h.elim
  | .refuse _, _, _, _, _, _, h, _ => h.elim

/-! ### A function -/
def resV (P : Program) (s : St) : ResultVar → Option Value
  | .tmp t => some (s.env t)
  | .cell a t => match s.env a with
    | .pointer (some ⟨b, o, none⟩) => qLoad P t (.pointer (some ⟨b, o, none⟩)) s.heap
    | _ => none

def resVs (P : Program) (s : St) : List ResultVar → Option (List Value)
  | [] => some []
  | r :: rs => match resV P s r, resVs P s rs with
    | some v, some vs => some (v :: vs)
    | _, _ => none

def tupleV : List Value → Value
  | [v] => v
  | vs => .tuple vs.toArray

/-- What is asked at a function's end: its results, and what stays known. -/
def Kret (P : Program) (rs : List ResultVar) (K : Kont) : Post := fun e s =>
  match e with
  | .normal | .ret => ∃ vs, resVs P s rs = some vs ∧ ∃ H, Heap.le H s.heap ∧ K (tupleV vs) H
  | _ => False

def envL (l : List Value) : Nat → Value := fun i => l.getD i undef

def resSem (tmps : Array Value) : ResultVar → Sem Value
  | .tmp t => pure (tmps.getD t undef)
  | .cell a t => do loadVar t (← asAddr (tmps.getD a undef))

theorem resSems_ok {P : Program} {N : Nat} {W0 : World} {s : St} {a : Act} {w : World} (hr : Rel N W0 s a w) : ∀ {rs : List ResultVar} {vs : List Value}, resVs P s rs = some vs → (rs.mapM (resSem a.tmps)).run P w = .ok vs w
  | [], vs, h => by simp only [resVs, Option.some.injEq] at h; subst h; simp
  | r :: rs, vs, h => by
    simp only [resVs] at h
    split at h
    case h_2 => cases h
    rename_i v vs' hv hvs
    simp only [Option.some.injEq] at h
    subst h
    have ih := resSems_ok hr hvs
    have h1 : (resSem a.tmps r).run P w = .ok v w := by
      cases r with
      | tmp t =>
        simp only [resV, Option.some.injEq] at hv
        subst hv
        simp only [resSem, Sem.run_pure, hr.env t]
      | cell x t =>
        simp only [resV] at hv
        split at hv
        case h_2 => cases hv
        rename_i b o hx
        have hq := qLoad_ok hr.sat hv
        simp only [Instr.loadAt, Instr.sureAddr, Sem.run_bind, Sem.run_pure, Result.andThen_ok] at hq
        rw [hr.env x] at hx
        simp only [resSem, Sem.run_bind, hx, asAddr, Sem.run_pure, Result.andThen_ok, hq]
    rw [List.mapM_cons]
    simp only [Sem.run_bind, h1, Result.andThen_ok, ih, Sem.run_pure]

theorem results_eq (fn : Func) (tmps : Array Value) : results fn tmps = (do let vs ← fn.results.mapM (resSem tmps); pure (if h : vs.size = 1 then vs[0] else .tuple vs)) := by
  unfold results
  congr 1

theorem results_ok {P : Program} {N : Nat} {W0 : World} {s : St} {a : Act} {w : World} (hr : Rel N W0 s a w) {rs : List ResultVar} {vs : List Value} (h : resVs P s rs = some vs) (fn : Func) (hf : fn.results = rs.toArray) :
    (results fn a.tmps).run P w = .ok (tupleV vs) w := by
  rw [results_eq, hf, Array.mapM_eq_mapM_toList]
  simp only [Sem.run_bind, Sem.run_map, resSems_ok hr h, Result.andThen_ok, Sem.run_pure]
  congr 1
  match vs with
  | [] => rfl
  | [v] => rfl
  | _ :: _ :: _ => simp [tupleV]

theorem ecalls_of_ewp {P : Program} {f : FuncId} {fn : Func} {c : Code} {args : List Value} {rs : List ResultVar} {H : Heap} {K : Kont} {N : Nat} (hf : P.funcs[f]? = some fn) (hb : fn.body = some c) (hN : fn.ntmps = N) (hrs : fn.results = rs.toArray)
    (hl : args.length ≤ N) (hc : codeOk N c = true) (h : ewp P c (Kret P rs K) ⟨envL args, H⟩) : ECalls P f args.toArray H K := by
  intro W0 w hs
  refine calls_of_wp hf hb ?_
  have hrel : Rel N W0 ⟨envL args, H⟩ { tmps := args.toArray ++ Array.replicate (fn.ntmps - args.toArray.size) undef, defers := [] } w := by
    refine ⟨rfl, by simp [hN]; omega, fun i => ?_, hs⟩
    simp only [envL, Array.getD_eq_getD_getElem?, List.getD_eq_getElem?_getD]
    by_cases hi : i < args.length
    · rw [Array.getElem?_append_left (by simpa using hi)]
      simp
    · rw [List.getElem?_eq_none (by omega)]
      by_cases hi2 : i < N
      · rw [Array.getElem?_append_right (by simp; omega), Array.getElem?_replicate]
        simp [hN]
        split <;> rfl
      · rw [Array.getElem?_eq_none (by simp [hN]; omega)]
  refine wp_mono (ewp_ok c _ _ _ _ hc h hrel) fun e a' w' hq => ?_
  obtain ⟨s', hk, hr'⟩ := hq
  cases e with
  | normal =>
    obtain ⟨vs, hv, H', hle, hK⟩ := hk
    exact ⟨hr'.defers, tupleV vs, results_ok hr' hv fn hrs, tupleV vs, H', rfl, hK, hr'.sat.le hle⟩
  | ret =>
    obtain ⟨vs, hv, H', hle, hK⟩ := hk
    exact ⟨hr'.defers, tupleV vs, results_ok hr' hv fn hrs, tupleV vs, H', rfl, hK, hr'.sat.le hle⟩
  | exit id => exact hk.elim
  | goto l => exact hk.elim
  | panic ch => exact hk.elim
  | outgrown => exact hk.elim


/-! ### What is said of an end may say less; a cut -/
theorem eops_mono {P : Program} {ops : Array Oper} {K K' : St → Prop} (hk : ∀ s, K s → K' s) : ∀ (l : List Oper) (s : St), eops P ops l K s → eops P ops l K' s
  | [], s, h => hk s h
  | o :: r, s, h => ⟨fun hw => eop_mono (fun v H hK => eops_mono hk r _ hK) (h.1 hw), fun hw => eops_mono hk r _ (h.2 hw)⟩
theorem eopQ_mono {P : Program} {ρ : Operand → Value} {o : Oper} {H : Heap} {K K' : Value → Prop} (hk : ∀ v, K v → K' v) (h : eopQ P ρ o H K) : eopQ P ρ o H K' := by
  unfold eopQ at h ⊢
  generalize o.op = op at *
  have hq : (∃ v, qop P ρ op H = some v ∧ K v) → ∃ v, qop P ρ op H = some v ∧ K' v := fun ⟨v, hv, h⟩ => ⟨v, hv, hk _ h⟩
  cases op with
  | call c =>
    simp only at h ⊢
    split at h
    · split at h
      · obtain ⟨hc, v, he, hK⟩ := h; exact ⟨hc, v, he, hk _ hK⟩
      · exact h
    · exact hq h
  | _ => exact hq h
theorem eopsQ_mono {P : Program} {ops : Array Oper} {K K' : St → Prop} (hk : ∀ s, K s → K' s) : ∀ (l : List Oper) (s : St), eopsQ P ops l K s → eopsQ P ops l K' s
  | [], s, h => hk s h
  | o :: r, s, h => ⟨fun hw => eopQ_mono (fun v hK => eopsQ_mono hk r _ hK) (h.1 hw), fun hw => eopsQ_mono hk r _ (h.2 hw)⟩
theorem eopsP_mono {P : Program} {ops : Array Oper} {K K' : St → Prop} (hk : ∀ s, K s → K' s) : ∀ (t : Plan) (s : St), eopsP P ops t K s → eopsP P ops t K' s
  | .done, s, h => hk s h
  | .op i t, s, h => runI_mono (fun s hs => eopsP_mono hk t s hs) h
  | .both a b, s, h => ⟨eopsP_mono hk a s h.1, eopsP_mono hk b s h.2⟩
theorem ewp_mono {P : Program} : ∀ (c : Code) {K K' : Post} (s : St), (∀ e s, K e s → K' e s) → ewp P c K s → ewp P c K' s
  | .skip, K, K', s, hk, h => hk _ _ h
  | .region id ops d, K, K', s, hk, h => by
    unfold ewp at h ⊢
    cases d with
    | false => exact eops_mono (hk _) _ _ h
    | true =>
      refine ⟨h.1, ?_⟩
      rcases h.2 with h | h | h
      · exact .inl ⟨h.1, eops_mono (hk _) _ _ h.2⟩
      · exact .inr (.inl ⟨h.1, eopsQ_mono (hk _) _ _ h.2⟩)
      · exact .inr (.inr (eopsP_mono (hk _) _ _ h))
  | .seq a b, K, K', s, hk, h => ewp_mono a s (fun e s he => by
      cases e with
      | normal => exact ewp_mono b s hk he
      | _ => exact hk _ _ he) h
  | .cond c a b, K, K', s, hk, h => by
    unfold ewp at h ⊢
    split at h
    · exact ⟨fun h1 => ewp_mono a s hk (h.1 h1), fun h1 => ewp_mono b s hk (h.2 h1)⟩
    · exact h
  | .block id b, K, K', s, hk, h => ewp_mono b s (fun e s he => by
      cases e with
      | exit i =>
        have he' : (if i = id then K .normal s else K (.exit i) s) := he
        show (if i = id then K' .normal s else K' (.exit i) s)
        by_cases hi : i = id
        · rw [if_pos hi] at he' ⊢; exact hk _ _ he'
        · rw [if_neg hi] at he' ⊢; exact hk _ _ he'
      | _ => exact hk _ _ he) h
  | .loop b, K, K', s, hk, h => by
    obtain ⟨I, μ, h0, h1⟩ := h
    exact ⟨I, μ, h0, fun s1 hs1 => ewp_mono b s1 (fun e s he => by
      cases e with
      | normal => exact he
      | _ => exact hk _ _ he) (h1 s1 hs1)⟩
  | .exit id, K, K', s, hk, h => hk _ _ h
  | .ret, K, K', s, hk, h => hk _ _ h
/-- A cut: what holds behind A, whatever way A went. -/
theorem w_cut {P : Program} {A : Code} {f : St → Prop} {K : Post} {s : St} (I : St → Prop) (h1 : ewp P A (Kseq I K) s) (h2 : ∀ s, I s → f s) : ewp P A (Kseq f K) s :=
  ewp_mono A s (fun e s he => by
    cases e with
    | normal => exact h2 s he
    | _ => exact he) h1
end Go.Proofs.YtfpighmafofoeaaDoor.GL
