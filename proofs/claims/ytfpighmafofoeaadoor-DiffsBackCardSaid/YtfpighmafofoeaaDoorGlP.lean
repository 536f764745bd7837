/- A region that draws its order, told along a plan: what floats (no block of memory is made or changed by it, and it stands apart) comes first; of the rest every order is told. -/
import Derived.Test.YtfpighmafofoeaaDoorGlG
import Derived.Orders
namespace Go.Proofs.YtfpighmafofoeaaDoor.GL
open Go Go.RowKit
set_option linter.unusedSimpArgs false
set_option linter.unusedVariables false

inductive Plan where
  | done
  | op (i : Nat) (t : Plan)
  | both (a b : Plan)
  deriving DecidableEq

def isPure (P : Program) (op : Op) : Bool :=
  match op with
  | .move _ | .assign _ | .pick .. | .binOp .. | .unOp .. | .extract .. | .slice .. | .fieldAddr .. | .indexAddr .. | .field .. | .build .. | .nilCheck _ | .makeFunc .. | .index .. => true
  | .convert s d _ => match und P s, und P d with
    | .int _, _ => true
    | .str, .str => true
    | _, _ => false
  | .call c => match c.callee with
    | .builtin .len => match c.argTypes.toList with
      | t :: _ => match und P t with
        | .map _ _ => false
        | _ => true
      | [] => false
    | .builtin .min | .builtin .max => true
    | _ => false
  | _ => false

theorem qop_pure {P : Program} {ρ : Operand → Value} {op : Op} (h : isPure P op = true) (H H' : Heap) : qop P ρ op H = qop P ρ op H' := by
  unfold isPure at h
  cases op with
  | convert s d x =>
    simp only at h
    unfold qop
    simp only
    unfold qConv
    split at h
    · rename_i k hs
      rw [hs]
      generalize und P d = u
      generalize ρ x = y
      cases u <;> cases y <;> rfl
    · rename_i hs hd
      rw [hs, hd]
      generalize ρ x = y
      cases y <;> rfl
    · cases h
  | call c =>
    obtain ⟨callee, args, ats⟩ := c
    simp only at h
    unfold qop
    simp only
    split at h
    · simp only
      split at h
      · rename_i t r ht
        rw [ht]
        split at h
        · cases h
        · rename_i hne
          cases args.toList with
          | nil => rfl
          | cons x l =>
            cases l with
            | cons y l => rfl
            | nil =>
              simp only
              unfold qLen
              cases hu : und P t <;> first | rfl | (exact (hne _ _ hu).elim) | (generalize ρ x = y; cases y <;> rfl)
      · cases h
    · rfl
    · rfl
    · cases h
  | _ => first | rfl | cases h

/-! ### What an operation reads -/
theorem qop_congr {P : Program} {ρ ρ' : Operand → Value} {op : Op} {H : Heap} (h : ∀ x ∈ op.operands, ρ x = ρ' x) : qop P ρ op H = qop P ρ' op H := by
  unfold qop
  cases op with
  | pick c a b => simp only [h c (by simp [Op.operands]), h a (by simp [Op.operands]), h b (by simp [Op.operands])]
  | build t ps =>
    have : (ps.toList.map fun p => (p.1, ρ p.2)) = ps.toList.map fun p => (p.1, ρ' p.2) := List.map_congr_left fun p hp => by
      rw [h p.2 (by simp only [Op.operands, List.mem_toArray, List.mem_map]; exact ⟨p, hp, rfl⟩)]
    simp only [this]
  | makeFunc fn first captured =>
    have h1 : first.map ρ = first.map ρ' := Array.map_congr_left fun x hx => h x (by simp [Op.operands, hx])
    have h2 : captured.map ρ = captured.map ρ' := Array.map_congr_left fun x hx => h x (by simp [Op.operands, hx])
    simp only [h1, h2]
  | slice t x lo hi mx =>
    have h0 : ρ x = ρ' x := h x (by simp [Op.operands])
    have h1 : lo.map ρ = lo.map ρ' := by cases lo with
      | none => rfl
      | some y => simp [h y (by simp [Op.operands])]
    have h2 : hi.map ρ = hi.map ρ' := by cases hi with
      | none => rfl
      | some y => simp [h y (by simp [Op.operands])]
    have h3 : mx.map ρ = mx.map ρ' := by cases mx with
      | none => rfl
      | some y => simp [h y (by simp [Op.operands])]
    simp only [h0, h1, h2, h3]
  | call c =>
    obtain ⟨callee, args, ats⟩ := c
    have ha : ∀ x ∈ args.toList, ρ x = ρ' x := fun x hx => h x (by simp only [Op.operands, Call.operands]; simp [Array.mem_toList_iff.1 hx])
    simp only
    split
    · split
      · rename_i x ht hx; rw [ha x (by rw [hx]; simp)]
      · rfl
    · split
      · rename_i x ht hx; rw [ha x (by rw [hx]; simp)]
      · rfl
    · split
      · rename_i x r hx
        rw [ha x (by rw [hx]; simp), List.map_congr_left (fun y hy => ha y (by rw [hx]; simp [hy]))]
      · rfl
    · split
      · rename_i x r hx
        rw [ha x (by rw [hx]; simp), List.map_congr_left (fun y hy => ha y (by rw [hx]; simp [hy]))]
      · rfl
    · rfl
  | move x => simp only [h x (by simp [Op.operands])]
  | assign x => simp only [h x (by simp [Op.operands])]
  | load t x => simp only [h x (by simp [Op.operands])]
  | nilCheck x => simp only [h x (by simp [Op.operands])]
  | binOp o t x y r => simp only [h x (by simp [Op.operands]), h y (by simp [Op.operands])]
  | unOp o t x => simp only [h x (by simp [Op.operands])]
  | convert a b x => simp only [h x (by simp [Op.operands])]
  | fieldAddr t x f => simp only [h x (by simp [Op.operands])]
  | field t x f => simp only [h x (by simp [Op.operands])]
  | indexAddr t x i => simp only [h x (by simp [Op.operands]), h i (by simp [Op.operands])]
  | index t x i => simp only [h x (by simp [Op.operands]), h i (by simp [Op.operands])]
  | extract x i => simp only [h x (by simp [Op.operands])]
  | _ => rfl

theorem eop_congr {P : Program} {ρ ρ' : Operand → Value} {o : Oper} {H : Heap} {K : Kont} (h : ∀ x ∈ o.op.operands, ρ x = ρ' x) (he : eop P ρ o H K) : eop P ρ' o H K := by
  have hq := qop_congr (P := P) (H := H) h
  unfold eop at he ⊢
  generalize o.op = op at *
  cases op with
  | box t x => simp only [h x (by simp [Op.operands])] at he ⊢; exact he
  | store t a x => simp only [h a (by simp [Op.operands]), h x (by simp [Op.operands])] at he ⊢; exact he
  | makeSlice t l c => simp only [h l (by simp [Op.operands]), h c (by simp [Op.operands])] at he ⊢; exact he
  | buildSlice t n ps =>
    have : (ps.toList.map fun p => (p.1, ρ p.2)) = ps.toList.map fun p => (p.1, ρ' p.2) := List.map_congr_left fun p hp => by
      rw [h p.2 (by simp only [Op.operands, List.mem_toArray, List.mem_map]; exact ⟨p, hp, rfl⟩)]
    simp only [this] at he
    exact he
  | convert s d x =>
    simp only [h x (by simp [Op.operands]), hq] at he ⊢; exact he
  | call c =>
    obtain ⟨callee, args, ats⟩ := c
    have ha : ∀ x ∈ args.toList, ρ x = ρ' x := fun x hx => h x (by simp only [Op.operands, Call.operands]; simp [Array.mem_toList_iff.1 hx])
    have hm : args.map ρ = args.map ρ' := Array.map_congr_left fun x hx => ha x (Array.mem_toList_iff.2 hx)
    simp only at he ⊢
    split at he
    · rename_i t t1 v x ht hx
      rw [ha v (by rw [hx]; simp), ha x (by rw [hx]; simp)] at he
      exact he
    · rename_i t t1 v x ht hx
      rw [ha v (by rw [hx]; simp), ha x (by rw [hx]; simp)] at he
      exact he
    · rename_i t v ht hx
      rw [ha v (by rw [hx]; simp)] at he
      exact he
    · rename_i t t1 v k ht hx
      rw [ha v (by rw [hx]; simp), ha k (by rw [hx]; simp)] at he
      exact he
    · rename_i f
      have hf : ρ f = ρ' f := h f (by simp [Op.operands, Call.operands])
      rw [← hf, ← hm]
      exact he
    · rw [hq] at he; exact he
  | alloc t => exact he
  | makeMap t r => exact he
  | lookup t x k ok => simp only [h x (by simp [Op.operands]), h k (by simp [Op.operands])] at he ⊢; exact he
  | mapUpdate t m k x => simp only [h m (by simp [Op.operands]), h k (by simp [Op.operands]), h x (by simp [Op.operands])] at he ⊢; exact he
  | range t x => simp only [h x (by simp [Op.operands])] at he ⊢; exact he
  | next it b => simp only [h it (by simp [Op.operands])] at he ⊢; exact he
  | entry it => simp only [h it (by simp [Op.operands])] at he ⊢; exact he
  | _ => simp only [hq] at he ⊢; exact he

/-! ### What an operation's end says may say less -/
section
variable {P : Program} {H : Heap} {K K' : Kont}
theorem eNew_mono {cs : List Value} (hk : ∀ v H', K v H' → K' v H') (h : eNew cs H K) : eNew cs H K' := fun b hb => hk _ _ (h b hb)
theorem eMake_mono {t : TypeId} {l c : Value} (hk : ∀ v H', K v H' → K' v H') (h : eMake P t l c H K) : eMake P t l c H K' := by
  unfold eMake at h ⊢
  repeat' split at h
  · exact ⟨h.1, fun b hb => hk _ _ (h.2 b hb)⟩
  · exact h.elim
  · exact h.elim
theorem eBuildSlice_mono {t : TypeId} {n : Nat} {ps : List (Nat × Value)} (hk : ∀ v H', K v H' → K' v H') (h : eBuildSlice P t n ps H K) : eBuildSlice P t n ps H K' := by
  unfold eBuildSlice at h ⊢
  generalize und P t = u at h ⊢
  cases u with
  | slice e =>
    simp only at h ⊢
    generalize zeroV P e = z at h ⊢
    generalize sz P e = s at h ⊢
    cases z with
    | none => exact h
    | some z =>
      cases s with
      | none => exact h
      | some s =>
        simp only at h ⊢
        refine ⟨h.1, ?_⟩
        have h2 := h.2
        generalize buildF (fun i => some (i * s, s)) ps (zeros (cellsV z) n) = q at h2 ⊢
        cases q with
        | none => exact h2
        | some cs => exact fun b hb => hk _ _ (h2 b hb)
  | _ => exact h
theorem eStrBytes_mono {s : ByteArray} (hk : ∀ v H', K v H' → K' v H') (h : eStrBytes s H K) : eStrBytes s H K' := fun b room hb => hk _ _ (h b room hb)
theorem eStore_mono {t : TypeId} {p v : Value} (hk : ∀ v H', K v H' → K' v H') (h : eStore P t p v H K) : eStore P t p v H K' := by
  unfold eStore at h ⊢
  repeat' split at h
  · exact ⟨h.1, hk _ _ h.2⟩
  · exact h.elim
  · exact h.elim
theorem eApp0_mono {t t1 : TypeId} {v x : Value} (hk : ∀ v H', K v H' → K' v H') (h : eApp0 P t t1 v x H K) : eApp0 P t t1 v x H K' := by
  unfold eApp0 at h ⊢
  generalize und P t = u at h ⊢
  cases u with
  | slice e =>
    cases v with
    | slice a len cap =>
      simp only at h ⊢
      generalize srcOf P e t1 x H = q at h ⊢
      generalize zeroV P e = z at h ⊢
      generalize nb P e = nbs at h ⊢
      generalize sz P e = s at h ⊢
      cases s with
      | none => exact h
      | some s =>
      cases nbs with
      | none => exact h
      | some nbs =>
      cases z with
      | none => exact h
      | some z =>
      cases q with
      | none => exact h
      | some q =>
        obtain ⟨n, ys⟩ := q
        simp only at h ⊢
        refine ⟨h.1, fun hn => hk _ _ (h.2.1 hn), fun hn => ?_⟩
        have h2 := h.2.2 hn
        cases a with
        | none => exact ⟨h2.1, fun b cap' room h3 h4 h5 => hk _ _ (h2.2 b cap' room h3 h4 h5)⟩
        | some a =>
          obtain ⟨b, o, sp⟩ := a
          cases sp with
          | some y => exact h2
          | none =>
            simp only at h2 ⊢
            generalize H b = g at h2 ⊢
            cases g with
            | none => exact h2
            | some g =>
              cases g with
              | row own off vs room =>
                cases own with
                | false => exact h2
                | true => exact ⟨h2.1, fun b' o' cap' room' h3 h4 h5 => hk _ _ (h2.2 b' o' cap' room' h3 h4 h5)⟩
              | map es => exact h2
              | iter m since seen last => exact h2
              | mapG ck es => exact h2
              | obj _ => exact h2
    | _ => exact h
  | _ => cases v <;> exact h
theorem eAppIn_mono {t t1 : TypeId} {v x : Value} (hk : ∀ v H', K v H' → K' v H') (h : eAppIn P t t1 v x H K) : eAppIn P t t1 v x H K' := by
  unfold eAppIn at h ⊢
  generalize und P t = u at h ⊢
  cases u with
  | slice e =>
    cases v with
    | slice a len cap =>
      cases a with
      | none => exact h
      | some a =>
        obtain ⟨b, o, sp⟩ := a
        cases sp with
        | some y => exact h
        | none =>
          simp only at h ⊢
          generalize srcOf P e t1 x H = q at h ⊢
          generalize zeroV P e = z at h ⊢
          generalize nb P e = nbs at h ⊢
          generalize sz P e = s at h ⊢
          generalize H b = g at h ⊢
          cases s with
          | none => exact h
          | some s =>
          cases nbs with
          | none => exact h
          | some nbs =>
          cases z with
          | none => exact h
          | some z =>
          cases q with
          | none => exact h
          | some q =>
          cases g with
          | none => exact h
          | some g =>
            cases g with
            | row own off vs room =>
              cases own with
              | false => exact h
              | true => exact ⟨h.1, hk _ _ h.2⟩
            | map es => exact h
            | iter m since seen last => exact h
            | mapG ck es => exact h
            | obj _ => exact h
    | _ => exact h
  | _ => cases v <;> exact h
theorem eAppNew_mono {t t1 : TypeId} {v x : Value} (hk : ∀ v H', K v H' → K' v H') (h : eAppNew P t t1 v x H K) : eAppNew P t t1 v x H K' := by
  obtain ⟨e, b, o, len, cap, s, nbs, z, n, ys, xs, a1, a2, a3, a4, a5, a6, a7, a8, a9⟩ := h
  exact ⟨e, b, o, len, cap, s, nbs, z, n, ys, xs, a1, a2, a3, a4, a5, a6, a7, a8, fun b' cap' room h1 h2 h3 => hk _ _ (a9 b' cap' room h1 h2 h3)⟩
theorem eApp_mono {t t1 : TypeId} {v x : Value} (hk : ∀ v H', K v H' → K' v H') (h : eApp P t t1 v x H K) : eApp P t t1 v x H K' :=
  h.imp (eApp0_mono hk) (fun h => h.imp (eAppIn_mono hk) (eAppNew_mono hk))
theorem eConvB_mono {s d e : TypeId} {x : Value} (hk : ∀ v H', K v H' → K' v H') (h : eConvB P s d e x H K) : eConvB P s d e x H K' := by
  obtain ⟨h1, h2, h3⟩ := h
  refine ⟨h1, h2, ?_⟩
  cases x with
  | slice a n c =>
    cases a with
    | none => exact h3
    | some a =>
      obtain ⟨b, o, sp⟩ := a
      cases sp with
      | some y => exact h3
      | none =>
        simp only at h3 ⊢
        generalize H b = g at h3 ⊢
        cases g with
        | none => exact h3
        | some g =>
          cases g with
          | row own off vs room =>
            cases own with
            | false => exact h3
            | true => exact hk _ _ h3
          | map es => exact h3
          | iter m since seen last => exact h3
          | mapG ck es => exact h3
          | obj _ => exact h3
  | _ => exact h3
theorem eClear_mono {t : TypeId} {v : Value} (hk : ∀ v H', K v H' → K' v H') (h : eClear P t v H K) : eClear P t v H K' := by
  unfold eClear at h ⊢
  generalize und P t = u at h ⊢
  cases u with
  | slice e =>
    cases v with
    | slice a len cap =>
      simp only at h ⊢
      generalize zeroV P e = z at h ⊢
      generalize sz P e = s at h ⊢
      cases z with
      | none => exact h
      | some z =>
      cases s with
      | none => exact h
      | some s =>
        simp only at h ⊢
        refine ⟨h.1, fun h0 => hk _ _ (h.2.1 h0), fun h0 => ?_⟩
        have h2 := h.2.2 h0
        cases a with
        | none => exact h2
        | some a =>
          obtain ⟨b, o, sp⟩ := a
          cases sp with
          | some y => exact h2
          | none =>
            simp only at h2 ⊢
            generalize H b = g at h2 ⊢
            cases g with
            | none => exact h2
            | some g =>
              cases g with
              | row own off vs room =>
                cases own with
                | false => exact h2
                | true => exact ⟨h2.1, hk _ _ h2.2⟩
              | map es => exact h2
              | iter m since seen last => exact h2
              | mapG ck es => exact h2
              | obj _ => exact h2
    | _ => exact h
  | map kt et =>
    cases v with
    | map r =>
      cases r with
      | none => exact h
      | some r =>
        simp only at h ⊢
        generalize H r = o at h ⊢
        cases o with
        | none => exact h
        | some o =>
          cases o with
          | map es => exact hk _ _ h
          | mapG ck es => exact hk _ _ h
          | _ => exact h
    | _ => exact h
  | _ => cases v <;> exact h
theorem eCopy_mono {t t1 : TypeId} {v x : Value} (hk : ∀ v H', K v H' → K' v H') (h : eCopy P t t1 v x H K) : eCopy P t t1 v x H K' := by
  unfold eCopy at h ⊢
  generalize und P t = u at h ⊢
  cases u with
  | slice e =>
    cases v with
    | slice a len cap =>
      simp only at h ⊢
      generalize srcOf P e t1 x H = q at h ⊢
      generalize sz P e = s at h ⊢
      cases s with
      | none => exact h
      | some s =>
      cases q with
      | none => exact h
      | some q =>
        obtain ⟨n, ys⟩ := q
        simp only at h ⊢
        refine ⟨h.1, h.2.1, ?_⟩
        have h2 := h.2.2
        cases a with
        | none => exact ⟨h2.1, hk _ _ h2.2⟩
        | some a =>
          obtain ⟨b, o, sp⟩ := a
          cases sp with
          | some y => exact h2
          | none =>
            simp only at h2 ⊢
            generalize H b = g at h2 ⊢
            cases g with
            | none => exact h2
            | some g =>
              cases g with
              | row own off vs room =>
                cases own with
                | false => exact h2
                | true => exact ⟨h2.1, hk _ _ h2.2⟩
              | map es => exact h2
              | iter m since seen last => exact h2
              | mapG ck es => exact h2
              | obj _ => exact h2
    | _ => exact h
  | _ => cases v <;> exact h

theorem eMapSet_mono {t : TypeId} {x k v : Value} (hk : ∀ v H', K v H' → K' v H') (h : eMapSet P t x k v H K) : eMapSet P t x k v H K' := by
  unfold eMapSet at h ⊢
  generalize und P t = u at h ⊢
  cases u with
  | map kt et =>
    cases x with
    | map r =>
      cases r with
      | none => exact h
      | some r =>
        simp only at h ⊢
        generalize H r = o at h ⊢
        cases o with
        | none => exact h
        | some o =>
          cases o with
          | map es =>
            simp only at h ⊢
            refine ⟨h.1, ?_⟩
            have h2 := h.2
            generalize findM P kt k es = f at h2 ⊢
            cases f with
            | none => exact h2
            | some f => cases f <;> exact hk _ _ h2
          | mapG ck es =>
            simp only at h ⊢
            refine ⟨h.1, ?_⟩
            have h2 := h.2
            generalize findM P kt k (es.map (·.2)) = f at h2 ⊢
            cases f with
            | none => exact h2
            | some f => cases f <;> exact hk _ _ h2
          | _ => exact h
    | _ => exact h
  | _ => exact h
theorem eDelete_mono {t : TypeId} {x k : Value} (hk : ∀ v H', K v H' → K' v H') (h : eDelete P t x k H K) : eDelete P t x k H K' := by
  unfold eDelete at h ⊢
  generalize und P t = u at h ⊢
  cases u with
  | map kt et =>
    cases x with
    | map r =>
      cases r with
      | none => exact h
      | some r =>
        simp only at h ⊢
        generalize H r = o at h ⊢
        cases o with
        | none => exact h
        | some o =>
          cases o with
          | mapG ck es =>
            simp only at h ⊢
            refine ⟨h.1, ?_⟩
            have h2 := h.2
            generalize findM P kt k (es.map (·.2)) = f at h2 ⊢
            cases f with
            | none => exact h2
            | some f => cases f <;> exact hk _ _ h2
          | _ => exact h
    | _ => exact h
  | _ => exact h
theorem eRange_mono {t : TypeId} {x : Value} (hk : ∀ v H', K v H' → K' v H') (h : eRange P t x H K) : eRange P t x H K' := by
  unfold eRange at h ⊢
  generalize und P t = u at h ⊢
  cases u with
  | map kt et =>
    cases x with
    | map r =>
      cases r with
      | none => exact h
      | some r =>
        simp only at h ⊢
        generalize H r = o at h ⊢
        cases o with
        | none => exact h
        | some o =>
          cases o with
          | map es => exact fun b hb => hk _ _ (h b hb)
          | mapG ck es => exact fun b hb => hk _ _ (h b hb)
          | _ => exact h
    | _ => exact h
  | _ => exact h
theorem eNext_mono {it : Value} (hk : ∀ v H', K v H' → K' v H') (h : eNext it H K) : eNext it H K' := by
  unfold eNext at h ⊢
  split at h
  case h_2 => exact h.elim
  rename_i r
  split at h
  case h_2 => exact h.elim
  rename_i m since seen last hr
  split at h
  case h_3 => exact h.elim
  case h_2 ck es hm => exact fun hn => ⟨(h hn).1, fun ha => hk _ _ ((h hn).2.1 ha), fun e he hi => hk _ _ ((h hn).2.2 e he hi)⟩
  rename_i es hm
  exact ⟨h.1, fun ha => hk _ _ (h.2.1 ha), fun i e hi he => hk _ _ (h.2.2 i e hi he)⟩
theorem eop_mono {ρ : Operand → Value} {o : Oper} (hk : ∀ v H', K v H' → K' v H') (h : eop P ρ o H K) : eop P ρ o H K' := by
  have hq : (∃ v, qop P ρ o.op H = some v ∧ K v H) → ∃ v, qop P ρ o.op H = some v ∧ K' v H := fun ⟨v, hv, h⟩ => ⟨v, hv, hk _ _ h⟩
  unfold eop at h ⊢
  generalize o.op = op at *
  cases op with
  | alloc t =>
    simp only at h ⊢
    generalize zeroV P t = z at h ⊢
    cases z with
    | none => exact h
    | some z => exact eNew_mono hk h
  | box t x => exact eNew_mono hk h
  | store t a x => exact eStore_mono hk h
  | makeSlice t l c => exact eMake_mono hk h
  | buildSlice t n ps => exact eBuildSlice_mono hk h
  | convert s d x =>
    simp only at h ⊢
    split at h
    · exact ⟨h.1, eStrBytes_mono hk h.2⟩
    · exact eConvB_mono hk h
    · exact hq h
  | call c =>
    obtain ⟨callee, args, ats⟩ := c
    simp only at h ⊢
    split at h
    · exact eApp_mono hk h
    · exact eCopy_mono hk h
    · exact eClear_mono hk h
    · exact eDelete_mono hk h
    · split at h
      · exact callX_mono hk h
      · exact h
    · exact hq h
  | makeMap t r =>
    cases r with
    | some _ => exact h
    | none => exact h.imp (fun h b hb => hk _ _ (h b hb)) (fun h b hb => hk _ _ (h b hb))
  | lookup t x k ok => exact h.imp fun v ⟨hv, h⟩ => ⟨hv, hk _ _ h⟩
  | mapUpdate t m k x => exact eMapSet_mono hk h
  | range t x => exact eRange_mono hk h
  | next it isString =>
    cases isString with
    | true => exact h
    | false => exact eNext_mono hk h
  | entry it => exact h.imp fun v ⟨hv, h⟩ => ⟨hv, hk _ _ h⟩
  | _ => exact hq h
end

theorem eop_of_isQ {P : Program} {ρ : Operand → Value} {o : Oper} {H : Heap} {K : Kont} (hq : isQ P o.op = true) (h : ∃ v, qop P ρ o.op H = some v ∧ K v H) : eop P ρ o H K := by
  unfold eop
  unfold isQ at hq
  cases hop : o.op with
  | convert s d x =>
    simp only [hop] at h hq
    simp only
    split
    · rename_i e b hs hd hx
      rw [hs, hd] at hq
      cases hq
    · rename_i e0 e a n c hs hd hx
      rw [hs, hd] at hq
      cases hq
    · exact h
  | call c =>
    obtain ⟨callee, args, ats⟩ := c
    simp only [hop] at h hq
    split at hq
    · simp only; exact h
    · simp only; exact h
    · simp only; exact h
    · cases hq
  | alloc t => rw [hop] at hq; cases hq
  | box t x => rw [hop] at hq; cases hq
  | store t a x => rw [hop] at hq; cases hq
  | makeSlice t l c => rw [hop] at hq; cases hq
  | buildSlice t n ps => rw [hop] at hq; cases hq
  | makeMap t r => rw [hop] at hq; cases hq
  | lookup t x k ok => rw [hop] at hq; cases hq
  | mapUpdate t m k x => rw [hop] at hq; cases hq
  | range t x => rw [hop] at hq; cases hq
  | next it b => rw [hop] at hq; cases hq
  | entry it => rw [hop] at hq; cases hq
  | _ => rw [hop] at h; exact h

/-! ### One operation behind another -/
theorem put_heap (s : St) (d : Option Tmp) (v : Value) (H : Heap) : (s.put d v H).heap = H := by cases d <;> rfl
theorem put_eval {s : St} {d : Option Tmp} {v : Value} {H : Heap} {x : Operand} (h : ∀ t, d = some t → x ≠ .tmp t) : (s.put d v H).eval x = s.eval x := by
  cases d with
  | none => cases x <;> rfl
  | some d =>
    cases x with
    | tmp t =>
      have : t ≠ d := fun e => h d rfl (by rw [e])
      simp [St.eval, St.put, setE, this]
    | _ => rfl
theorem put_comm (s : St) {x y : Option Tmp} (v u : Value) (H1 H2 : Heap) (h : ∀ d, x = some d → y ≠ some d) : (s.put x v H1).put y u H2 = (s.put y u H1).put x v H2 := by
  cases x with
  | none => cases y <;> rfl
  | some d =>
    cases y with
    | none => rfl
    | some e =>
      have hne : d ≠ e := fun he => h d rfl (by rw [he])
      simp only [St.put, St.mk.injEq, and_true]
      funext i
      simp only [setE]
      by_cases h1 : i = e
      · subst h1; simp [Ne.symm hne]
      · simp [h1]
theorem put_put_heap (s : St) (y : Option Tmp) (u : Value) (H1 H2 : Heap) : (St.mk s.env H1).put y u H2 = s.put y u H2 := by cases y <;> rfl

theorem eval_apart {ops : Array Oper} {p q : Oper} {s : St} {v : Value} {H : Heap} (h : ∀ d, p.dst = some d → d ∉ q.looksAt ops) : ∀ x ∈ q.op.operands, (s.put p.dst v H).eval x = s.eval x := fun x hx =>
  put_eval fun t ht e => h t ht (by
    unfold Oper.looksAt
    rw [List.mem_append]
    exact .inl (List.mem_filterMap.2 ⟨x, Array.mem_toList_iff.2 hx, by rw [e]⟩))
theorem want_apart {ops : Array Oper} {p q : Oper} {s : St} {v : Value} {H : Heap} (h : ∀ d, p.dst = some d → d ∉ q.looksAt ops) : wantE ops (s.put p.dst v H) q = wantE ops s q := by
  unfold wantE
  cases hg : q.guard with
  | none => rfl
  | some g =>
    obtain ⟨j, want⟩ := g
    simp only
    cases hd : (ops[j]?).bind (·.dst) with
    | none => rfl
    | some d =>
      simp only
      have : (s.put p.dst v H).env d = s.env d := by
        cases hp : p.dst with
        | none => rfl
        | some e =>
          have hne : d ≠ e := fun he => h e hp (by
            unfold Oper.looksAt
            rw [List.mem_append]
            right
            rw [hg]
            simp only [hd, he, Option.toList_some, List.mem_singleton])
          simp [St.put, setE, hne]
      rw [this]

/-- One operation, and what follows. -/
def run1 (P : Program) (ops : Array Oper) (o : Oper) (K : St → Prop) (s : St) : Prop :=
  (wantE ops s o = true → eop P s.eval o s.heap fun v H => K (s.put o.dst v H)) ∧ (wantE ops s o = false → K (s.put o.dst undef s.heap))
theorem run1_mono {P : Program} {ops : Array Oper} {o : Oper} {K K' : St → Prop} {s : St} (hk : ∀ s, K s → K' s) (h : run1 P ops o K s) : run1 P ops o K' s :=
  ⟨fun hw => eop_mono (fun _ _ => hk _) (h.1 hw), fun hw => hk _ (h.2 hw)⟩

theorem run1_swap {P : Program} {ops : Array Oper} {p q : Oper} (hp : isQ P p.op = true) (ha : p.apart ops q = true) (hc : isPure P p.op = true ∨ isQ P q.op = true) {K : St → Prop} {s : St}
    (h : run1 P ops p (run1 P ops q K) s) : run1 P ops q (run1 P ops p K) s := by
  obtain ⟨h1, h2, h3⟩ := Oper.apart_spec ha
  have h2' : ∀ d, p.dst = some d → q.dst ≠ some d := h2
  by_cases hwp : wantE ops s p = true
  · obtain ⟨v, hv, hk⟩ := eop_isQ hp (h.1 hwp)
    have hwq := want_apart (s := s) (v := v) (H := s.heap) h1
    refine ⟨fun hw => ?_, fun hw => ?_⟩
    · have he := eop_congr (eval_apart h1) (hk.1 (by rw [hwq]; exact hw))
      rw [put_heap] at he
      have key : ∀ u H', (isPure P p.op = true ∨ H' = s.heap) → K ((s.put p.dst v s.heap).put q.dst u H') → run1 P ops p K (s.put q.dst u H') := fun u H' hor hK => by
        refine ⟨fun _ => eop_of_isQ hp ⟨v, ?_, ?_⟩, fun hw' => ?_⟩
        · rw [put_heap, qop_congr (eval_apart h3)]
          rcases hor with hor | hor
          · rw [qop_pure hor H' s.heap]; exact hv
          · rw [hor]; exact hv
        · rw [put_heap]
          have := put_comm s (x := q.dst) (y := p.dst) u v H' H' (fun d hd hp' => h2' d hp' hd)
          rw [this]
          have e2 : (s.put p.dst v s.heap).put q.dst u H' = (s.put p.dst v H').put q.dst u H' := by cases p.dst <;> cases q.dst <;> rfl
          rw [← e2]; exact hK
        · rw [want_apart h3, hwp] at hw'; cases hw'
      rcases hc with hc | hc
      · exact eop_mono (fun u H' hK => key u H' (.inl hc) hK) he
      · obtain ⟨u, hu, hK⟩ := eop_isQ hc he
        exact eop_of_isQ hc ⟨u, hu, key u _ (.inr rfl) hK⟩
    · have hK := hk.2 (by rw [hwq]; exact hw)
      rw [put_heap] at hK
      refine ⟨fun _ => eop_of_isQ hp ⟨v, ?_, ?_⟩, fun hw' => ?_⟩
      · rw [put_heap, qop_congr (eval_apart h3)]; exact hv
      · rw [put_heap, put_comm s (x := q.dst) (y := p.dst) undef v s.heap s.heap (fun d hd hp' => h2' d hp' hd)]; exact hK
      · rw [want_apart h3, hwp] at hw'; cases hw'
  · have hwp' : wantE ops s p = false := by simpa using hwp
    have hk := h.2 hwp'
    have hwq := want_apart (s := s) (v := undef) (H := s.heap) h1
    refine ⟨fun hw => ?_, fun hw => ?_⟩
    · have he := eop_congr (eval_apart h1) (hk.1 (by rw [hwq]; exact hw))
      rw [put_heap] at he
      refine eop_mono (fun u H' hK => ⟨fun hw' => ?_, fun _ => ?_⟩) he
      · rw [want_apart h3, hwp'] at hw'; cases hw'
      · rw [put_heap, put_comm s (x := q.dst) (y := p.dst) u undef H' H' (fun d hd hp' => h2' d hp' hd)]
        have e2 : (s.put p.dst undef s.heap).put q.dst u H' = (s.put p.dst undef H').put q.dst u H' := by cases p.dst <;> cases q.dst <;> rfl
        rw [← e2]; exact hK
    · have hK := hk.2 (by rw [hwq]; exact hw)
      rw [put_heap] at hK
      refine ⟨fun hw' => ?_, fun _ => ?_⟩
      · rw [want_apart h3, hwp'] at hw'; cases hw'
      · rw [put_heap, put_comm s (x := q.dst) (y := p.dst) undef undef s.heap s.heap (fun d hd hp' => h2' d hp' hd)]; exact hK

/-! ### The plan -/
def bindsTo (ops : Array Oper) (i j : Nat) : Bool := ((ops[j]?).map fun o => o.after.any fun e => Region.binds .any e && e.on == i).getD false
def floats (P : Program) (ops : Array Oper) (i : Nat) : Bool :=
  match ops[i]? with
  | some p => isQ P p.op && (List.range ops.size).all fun j => j == i || bindsTo ops i j || bindsTo ops j i || (match ops[j]? with
    | some q => p.apart ops q && (isPure P p.op || isQ P q.op)
    | none => true)
  | none => false
def joinP : List Plan → Plan
  | [] => .done
  | [a] => a
  | a :: r => .both a (joinP r)
def plan (P : Program) (ops : Array Oper) : Nat → Array Bool → Plan
  | 0, _ => .done
  | n + 1, L => match (Region.ready .any ops L).find? (floats P ops) with
    | some i => .op i (plan P ops n (L.setIfInBounds i true))
    | none => joinP ((Region.ready .any ops L).map fun d => .op d (plan P ops n (L.setIfInBounds d true)))

def runI (P : Program) (ops : Array Oper) (i : Nat) (K : St → Prop) (s : St) : Prop :=
  match ops[i]? with
  | some o => run1 P ops o K s
  | none => False
def eopsP (P : Program) (ops : Array Oper) : Plan → (St → Prop) → St → Prop
  | .done, K, s => K s
  | .op i t, K, s => runI P ops i (eopsP P ops t K) s
  | .both a b, K, s => eopsP P ops a K s ∧ eopsP P ops b K s

theorem runI_mono {P : Program} {ops : Array Oper} {i : Nat} {K K' : St → Prop} {s : St} (hk : ∀ s, K s → K' s) (h : runI P ops i K s) : runI P ops i K' s := by
  unfold runI at h ⊢
  split at h
  · rename_i o ho; exact run1_mono hk h
  · exact h.elim
theorem joinP_mem {P : Program} {ops : Array Oper} {K : St → Prop} {s : St} : ∀ {l : List Plan} {t : Plan}, t ∈ l → eopsP P ops (joinP l) K s → eopsP P ops t K s
  | [], _, h, _ => by cases h
  | [a], t, h, he => by
    rw [List.mem_singleton] at h; subst h; exact he
  | a :: b :: r, t, h, he => by
    unfold joinP at he
    unfold eopsP at he
    rcases List.mem_cons.1 h with rfl | h
    · exact he.1
    · exact joinP_mem h he.2

/-- How many are still to come. -/
def left (ops : Array Oper) (L : Array Bool) : Nat := ((List.range ops.size).filter fun i => !L.getD i true).length
theorem left_set {md : Region.Mode} {ops : Array Oper} {L : Array Bool} {i : Nat} (h : i ∈ Region.ready md ops L) : left ops (L.setIfInBounds i true) + 1 = left ops L := by
  obtain ⟨h0, o, ho, _⟩ := mem_ready.1 h
  have hi : i < ops.size := (Array.getElem?_eq_some_iff.1 ho).1
  have hL : i < L.size := by
    rcases Nat.lt_or_ge i L.size with h' | h'
    · exact h'
    · simp [Array.getElem?_eq_none h'] at h0
  unfold left
  have key : ∀ (l : List Nat), l.Nodup → i ∈ l → (l.filter fun j => !(L.setIfInBounds i true).getD j true).length + 1 = (l.filter fun j => !L.getD j true).length := by
    intro l
    induction l with
    | nil => intro _ hm; cases hm
    | cons a r ih =>
      intro hn hm
      rw [List.nodup_cons] at hn
      rcases List.mem_cons.1 hm with rfl | hm
      · have e1 : (!(L.setIfInBounds i true).getD i true) = false := by simp [hL]
        have e2 : (!L.getD i true) = true := by rw [h0]; rfl
        rw [List.filter_cons, List.filter_cons, e1, e2]
        simp only [Bool.false_eq_true, if_false, if_true, List.length_cons]
        congr 1
        congr 1
        apply List.filter_congr
        intro j hj
        have hne : i ≠ j := fun e => hn.1 (by rw [e]; exact hj)
        rw [getD_set_ne true hne]
      · have hne : i ≠ a := fun e => hn.1 (by rw [← e]; exact hm)
        have := ih hn.2 hm
        rw [List.filter_cons, List.filter_cons, getD_set_ne true hne]
        split
        · simp only [List.length_cons]; omega
        · exact this
  exact key _ List.nodup_range (List.mem_range.2 hi)
theorem left_pos {md : Region.Mode} {ops : Array Oper} {L : Array Bool} {i : Nat} (h : i ∈ Region.ready md ops L) : 0 < left ops L := by
  have := left_set h; omega
theorem set_set (L : Array Bool) (i j : Nat) : (L.setIfInBounds i true).setIfInBounds j true = (L.setIfInBounds j true).setIfInBounds i true := by
  by_cases h : i = j
  · subst h; rfl
  · exact Array.setIfInBounds_comm _ _ h

theorem runI_swap {P : Program} {ops : Array Oper} {L : Array Bool} {i j : Nat} (hi : i ∈ Region.ready .any ops L) (hj : j ∈ Region.ready .any ops L) (hne : i ≠ j) (hf : floats P ops i = true) {K : St → Prop} {s : St}
    (h : runI P ops i (runI P ops j K) s) : runI P ops j (runI P ops i K) s := by
  obtain ⟨i0, p, hp, hip⟩ := mem_ready.1 hi
  obtain ⟨j0, q, hq, hjq⟩ := mem_ready.1 hj
  have nb : ∀ {a b : Nat} {o : Oper}, ops[b]? = some o → (∀ e ∈ o.after, Region.binds .any e = true → L.getD e.on false = true) → L.getD a true = false → bindsTo ops a b = false := by
    intro a b o ho hall h0
    unfold bindsTo
    rw [ho]
    simp only [Option.map_some, Option.getD_some]
    rw [Bool.eq_false_iff]
    intro hany
    obtain ⟨e, he, hb⟩ := Array.any_eq_true'.1 hany
    rw [Bool.and_eq_true, beq_iff_eq] at hb
    have h1 := hall e he hb.1
    rw [hb.2] at h1
    have : L.getD a true = true := by
      simp only [Array.getD_eq_getD_getElem?] at h1 ⊢
      cases hx : L[a]? with
      | none => rfl
      | some y => rw [hx] at h1; exact h1
    rw [this] at h0; cases h0
  have hb1 := nb hq hjq i0
  have hb2 := nb hp hip j0
  unfold floats at hf
  rw [hp] at hf
  simp only [Bool.and_eq_true] at hf
  have hall := List.all_eq_true.1 hf.2 j (List.mem_range.2 (Array.getElem?_eq_some_iff.1 hq).1)
  rw [hb1, hb2, hq] at hall
  have hne' : (j == i) = false := by simpa using Ne.symm hne
  simp only [hne', Bool.false_or, Bool.and_eq_true, Bool.or_eq_true] at hall
  have e1 : ∀ K s, runI P ops i K s = run1 P ops p K s := fun K s => by unfold runI; rw [hp]
  have e2 : ∀ K s, runI P ops j K s = run1 P ops q K s := fun K s => by unfold runI; rw [hq]
  rw [e1] at h
  rw [e2]
  have e1' : runI P ops i K = run1 P ops p K := funext fun s => e1 K s
  have e2' : runI P ops j K = run1 P ops q K := funext fun s => e2 K s
  rw [e2'] at h
  rw [e1']
  exact run1_swap hf.1 hall.1 hall.2 h

theorem plan_some {P : Program} {ops : Array Oper} {n : Nat} {L : Array Bool} {i : Nat} (h : (Region.ready .any ops L).find? (floats P ops) = some i) : plan P ops (n + 1) L = .op i (plan P ops n (L.setIfInBounds i true)) := by
  simp only [plan, h]
theorem plan_none {P : Program} {ops : Array Oper} {n : Nat} {L : Array Bool} (h : (Region.ready .any ops L).find? (floats P ops) = none) :
    plan P ops (n + 1) L = joinP ((Region.ready .any ops L).map fun d => .op d (plan P ops n (L.setIfInBounds d true))) := by
  simp only [plan, h]

/-- Whatever is ready may come first; and what floats may be laid ahead again. -/
theorem plan_both {P : Program} {ops : Array Oper} : ∀ (n : Nat),
    (∀ (L : Array Bool) (i : Nat) (K : St → Prop) (s : St), left ops L = n + 1 → i ∈ Region.ready .any ops L → eopsP P ops (plan P ops (n + 1) L) K s → runI P ops i (eopsP P ops (plan P ops n (L.setIfInBounds i true)) K) s) ∧
    (∀ (L : Array Bool) (j : Nat) (K : St → Prop) (s : St), left ops L = n + 1 → j ∈ Region.ready .any ops L → floats P ops j = true → runI P ops j (eopsP P ops (plan P ops n (L.setIfInBounds j true)) K) s → eopsP P ops (plan P ops (n + 1) L) K s) := by
  intro n
  induction n with
  | zero =>
    have one : ∀ {L : Array Bool} {i j : Nat}, left ops L = 0 + 1 → i ∈ Region.ready .any ops L → j ∈ Region.ready .any ops L → i = j := by
      intro L i j hn hi hj
      by_cases h : i = j
      · exact h
      · have h1 := left_set hi
        have h2 := left_pos (ready_mono hj (Ne.symm h))
        omega
    constructor
    · intro L i K s hn hi h
      cases hf : (Region.ready .any ops L).find? (floats P ops) with
      | some j0 =>
        rw [plan_some hf] at h
        obtain rfl := one hn hi (List.mem_of_find?_eq_some hf)
        exact h
      | none =>
        rw [plan_none hf] at h
        exact joinP_mem (List.mem_map.2 ⟨i, hi, rfl⟩) h
    · intro L j K s hn hj hfl h
      cases hf : (Region.ready .any ops L).find? (floats P ops) with
      | some j0 =>
        obtain rfl := one hn hj (List.mem_of_find?_eq_some hf)
        rw [plan_some hf]
        exact h
      | none => exact absurd hfl (by simpa using List.find?_eq_none.1 hf j hj)
  | succ n ih =>
    obtain ⟨ihF, ihR⟩ := ih
    constructor
    · intro L i K s hn hi h
      cases hf : (Region.ready .any ops L).find? (floats P ops) with
      | some j0 =>
        rw [plan_some hf] at h
        have hj0 := List.mem_of_find?_eq_some hf
        have hfl : floats P ops j0 = true := List.find?_some hf
        by_cases hij : i = j0
        · subst hij; exact h
        · have hl1 := left_set hj0
          have hl2 := left_set hi
          have h1 := runI_mono (fun s' hs' => ihF _ i K s' (by omega) (ready_mono hi hij) hs') (show runI P ops j0 (eopsP P ops (plan P ops (n + 1) (L.setIfInBounds j0 true)) K) s from h)
          have h2 := runI_swap hj0 hi (Ne.symm hij) hfl h1
          rw [set_set] at h2
          exact runI_mono (fun s' hs' => ihR _ j0 K s' (by omega) (ready_mono hj0 (Ne.symm hij)) hfl hs') h2
      | none =>
        rw [plan_none hf] at h
        exact joinP_mem (List.mem_map.2 ⟨i, hi, rfl⟩) h
    · intro L j K s hn hj hfl h
      cases hf : (Region.ready .any ops L).find? (floats P ops) with
      | some j0 =>
        have hj0 := List.mem_of_find?_eq_some hf
        rw [plan_some hf]
        by_cases hij : j = j0
        · subst hij; exact h
        · have hl1 := left_set hj0
          have hl2 := left_set hj
          have h1 := runI_mono (fun s' hs' => ihF _ j0 K s' (by omega) (ready_mono hj0 (Ne.symm hij)) hs') h
          have h2 := runI_swap hj hj0 hij hfl h1
          rw [set_set] at h2
          exact runI_mono (fun s' hs' => ihR _ j K s' (by omega) (ready_mono hj hij) hfl hs') h2
      | none => exact absurd hfl (by simpa using List.find?_eq_none.1 hf j hj)

theorem runI_ok {P : Program} {N : Nat} {W0 : World} {ops : Array Oper} (hN : opsOk N ops.toList = true) {K : St → Prop} {K' : Act → World → Prop} {Q : Exit → Act → World → Prop} {i : Nat} {s : St} {a : Act} {w : World}
    (hK : ∀ s a w, K s → Rel N W0 s a w → K' a w) (h : runI P ops i K s) (hr : Rel N W0 s a w) : wpOp P ops Q i K' a w := by
  unfold runI at h
  unfold wpOp
  cases ho : ops[i]? with
  | none => rw [ho] at h; exact h.elim
  | some o =>
    rw [ho] at h
    simp only at h ⊢
    have hmem : o ∈ ops.toList := Array.mem_toList_iff.2 (Array.mem_of_getElem? ho)
    have hw := wantE_eq hr hN o
    have hd := opsOk_dst hN hmem
    rw [hw]
    by_cases hwt : wantE ops s o = true
    · rw [if_pos hwt]
      left
      have hstep := eop_ok hr.sat (h.1 hwt)
      unfold Oper.wp
      rw [hr.eval]
      generalize (execOp s.eval o).run P w = r at hstep
      cases r with
      | ok n w' =>
        cases n <;> simp only [StepOk] at hstep <;> first | (exact hstep.elim) | skip
        · obtain ⟨H, hk, hs⟩ := hstep
          exact hK _ _ _ hk (hr.put o.dst hd _ hs)
        · obtain ⟨H, hk, hs⟩ := hstep
          exact hK _ _ _ hk (hr.put o.dst hd _ hs)
        · refine hstep.mono fun e w'' ⟨v, H, he, hk, hs⟩ => ?_
          subst he
          exact hK _ _ _ hk (hr.put o.dst hd _ hs)
      | halt x w' => exact hstep.elim
    · rw [if_neg hwt]
      exact hK _ _ _ (h.2 (by simpa using hwt)) (hr.put o.dst hd _ hr.sat)

theorem plan_ok {P : Program} {N : Nat} {W0 : World} {ops : Array Oper} (hN : opsOk N ops.toList = true) {K : St → Prop} {Q : Exit → Act → World → Prop} (hQ : ∀ s a w, K s → Rel N W0 s a w → Q .normal a w) :
    ∀ (n : Nat) (L : Array Bool) (s : St) (a : Act) (w : World), left ops L = n → eopsP P ops (plan P ops n L) K s → Rel N W0 s a w → wpAny P .any ops Q n L a w
  | 0, L, s, a, w, hn, h, hr => by
    refine ⟨?_, hQ s a w h hr⟩
    rw [List.eq_nil_iff_forall_not_mem]
    intro i hi
    have := left_pos hi
    omega
  | n + 1, L, s, a, w, hn, h, hr => by
    refine ⟨fun hnil => ?_, fun i hi => ?_⟩
    · have hp : plan P ops (n + 1) L = .done := by
        rw [plan_none (by rw [hnil]; rfl), hnil]; rfl
      rw [hp] at h
      exact hQ s a w h hr
    · have hF := (plan_both n).1 L i K s hn hi h
      have hl := left_set hi
      exact runI_ok hN (fun s' a' w' hs' hr' => plan_ok hN hQ n (L.setIfInBounds i true) s' a' w' (by omega) hs' hr') hF hr

def planOf (P : Program) (ops : Array Oper) : Plan := plan P ops ops.size (Array.replicate ops.size false)

theorem draw_plan {P : Program} {N : Nat} {W0 : World} {id : Nat} {ops : Array Oper} (hm : P.follows .mixedOrders = true) (hN : opsOk N ops.toList = true) {K : St → Prop} {Q : Exit → Act → World → Prop}
    (hQ : ∀ s a w, K s → Rel N W0 s a w → Q .normal a w) {s : St} {a : Act} {w : World} (h : eopsP P ops (planOf P ops) K s) (hr : Rel N W0 s a w) : (Code.region id ops true).wp P Q a w := by
  refine wp_region_any hm (plan_ok hN hQ ops.size _ s a _ ?_ h ⟨hr.defers, hr.size, hr.env, hr.sat.drawn _⟩)
  unfold left
  have : ((List.range ops.size).filter fun i => !(Array.replicate ops.size false).getD i true) = List.range ops.size := by
    rw [List.filter_eq_self]
    intro i hi
    have := List.mem_range.1 hi
    simp [this]
  rw [this, List.length_range]
end Go.Proofs.YtfpighmafofoeaaDoor.GL
