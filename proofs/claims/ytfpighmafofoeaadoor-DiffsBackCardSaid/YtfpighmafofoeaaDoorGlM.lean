/- Maps: keys alike, found; what a map holds is told; written; walked over. -/
import Derived.Test.YtfpighmafofoeaaDoorGlD
import Derived.MapKept
import Derived.WideKeyRuns
namespace Go.Proofs.YtfpighmafofoeaaDoor.GL
set_option linter.unusedSimpArgs false
set_option linter.unusedVariables false
open Go Go.RowKit Go.MapKept

/-! ### Keys -/
/-- The fields of a struct whose every field is one plain cell. -/
def plainFs (P : Program) : List Field → Nat → Bool
  | [], _ => true
  | f :: fs, off => f.name != "_" && f.offset == off && decide (tk P f.type = some (false, 1)) && (match und P f.type with | .bool | .int _ | .str => true | _ => false) && plainFs P fs (off + 1)
def fieldsU (P : Program) (t : TypeId) : List Field := match P.underlying t with | some (.struct fs) => fs.toList | _ => []
def keyStruct (P : Program) (t : TypeId) : Option Nat := if plainFs P (fieldsU P t) 0 = true then some (fieldsU P t).length else none
def keyOk (P : Program) (kt : TypeId) (k : Value) : Bool :=
  match und P kt, k with
  | .str, .string _ => true
  | .int _, .int _ _ => true
  | .struct, .agg cs => match keyStruct P kt with
    | some n => decide (cs.size = n) && cs.toList.all fun c => match c with | .bool _ | .int _ _ | .string _ => true | _ => false
    | none => false
  | .arr n e, .agg cs => decide (tk P e = some (false, 1)) && (match und P e with | .bool | .int _ | .str => true | _ => false) && decide (cs.size = n) && cs.toList.all fun c => match c with | .bool _ | .int _ _ | .string _ => true | _ => false
  | _, _ => false
def keyEq (P : Program) (kt : TypeId) (k k' : Value) : Option Bool :=
  match und P kt with
  | .str => match k, k' with
    | .string a, .string b => some (a == b)
    | _, _ => none
  | .int _ => match k, k' with
    | .int q a, .int q' b => if q = q' then some (a == b) else none
    | _, _ => none
  | .struct => match k, k' with
    | .agg xs, .agg ys => qEq P kt (.agg xs) (.agg ys)
    | _, _ => none
  | .arr _ _ => match k, k' with
    | .agg xs, .agg ys => qEq P kt (.agg xs) (.agg ys)
    | _, _ => none
  | _ => none
def findM (P : Program) (kt : TypeId) (k : Value) : List (Value × Value) → Option (Option Nat)
  | [] => some none
  | (k', _) :: es => match keyEq P kt k k' with
    | some true => some (some 0)
    | some false => (findM P kt k es).map (Option.map (· + 1))
    | none => none

theorem checkFs_ok {P : Program} {em : Bool} {n : Nat} (xs : List Value) (hx : xs.all (fun c => match c with | .bool _ | .int _ _ | .string _ => true | _ => false) = true) (w : World) :
    ∀ (fs : List Field) (off : Nat), plainFs P fs off = true → off + fs.length = xs.length →
      (forIn fs PUnit.unit (fun f _ => (do
        if f.name ≠ "_" then Instr.checkKey em (n + 1) f.type (← part f.type xs.toArray f.offset)
        pure (ForInStep.yield PUnit.unit) : Sem (ForInStep PUnit)))).run P w = .ok PUnit.unit w
  | [], _, _, _ => by simp
  | f :: fs, off, hf, hl => by
    simp only [plainFs, Bool.and_eq_true, bne_iff_ne, ne_eq, beq_iff_eq, decide_eq_true_eq] at hf
    obtain ⟨⟨⟨⟨hn, ho⟩, htk⟩, hu⟩, hrest⟩ := hf
    have hlt : off < xs.length := by simp at hl; omega
    have p1 := part_mkV (P := P) (xs := xs) (off := off) htk (fun _ => rfl) (by omega) w
    obtain ⟨c, hc⟩ : ∃ c, xs[off]? = some c := ⟨_, List.getElem?_eq_getElem hlt⟩
    have hcp := List.all_eq_true.1 hx c (List.mem_of_getElem? hc)
    obtain ⟨dd, hd, hs, ha⟩ := tk_spec htk
    have hv : mkV P f.type ((xs.drop off).take 1) = c := by
      unfold mkV
      rw [ha, if_neg (by decide), List.drop_eq_getElem_cons hlt]
      have : xs[off] = c := by
        have := List.getElem?_eq_getElem hlt
        rw [hc] at this; exact (Option.some.inj this).symm
      simp [this]
    rw [hv] at p1
    have p2 : (Instr.checkKey em (n + 1) f.type c).run P w = .ok () w := by
      unfold Instr.checkKey
      simp only [Sem.run_bind, run_underlying hd, Result.andThen_ok]
      unfold und at hu
      rw [hd] at hu
      cases dd <;> simp at hu <;> cases c <;> simp_all
    have ih := checkFs_ok (P := P) (em := em) (n := n) xs hx w fs (off + 1) hrest (by simp at hl; omega)
    simp only [List.forIn_cons, Sem.run_bind, hn, ne_eq, not_false_eq_true, if_true, ho, Result.andThen_ok, p1, p2, Sem.run_pure]
    exact ih
theorem plainKey {P : Program} {em : Bool} {n : Nat} {t : TypeId} {c : Value} {w : World} {dd : TypeDesc} (hd : P.underlying t = some dd) (hu : (match und P t with | .bool | .int _ | .str => true | _ => false) = true) (hcp : (match c with | .bool _ | .int _ _ | .string _ => true | _ => false) = true) :
    (Instr.checkKey em (n + 1) t c).run P w = .ok () w := by
  unfold Instr.checkKey
  simp only [Sem.run_bind, run_underlying hd, Result.andThen_ok]
  unfold und at hu
  rw [hd] at hu
  cases dd <;> simp at hu <;> cases c <;> simp_all
theorem checkArr_ok {P : Program} {em : Bool} {n : Nat} {e : TypeId} (xs : List Value) (htk : tk P e = some (false, 1)) (hu : (match und P e with | .bool | .int _ | .str => true | _ => false) = true) (hx : xs.all (fun c => match c with | .bool _ | .int _ _ | .string _ => true | _ => false) = true) (w : World) :
    ∀ (l : List Nat), (∀ i ∈ l, i < xs.length) → (forIn l PUnit.unit (fun i _ => (do
        Instr.checkKey em (n + 1) e (← part e xs.toArray (i * (← sizeOf e)))
        pure (ForInStep.yield PUnit.unit) : Sem (ForInStep PUnit)))).run P w = .ok PUnit.unit w
  | [], _ => by simp
  | i :: l, hl => by
    have hlt := hl i (by simp)
    obtain ⟨dd, hd, hs, ha⟩ := tk_spec htk
    have p1 := part_mkV (P := P) (xs := xs) (off := i * 1) htk (fun _ => rfl) (by omega) w
    obtain ⟨c, hc⟩ : ∃ c, xs[i]? = some c := ⟨_, List.getElem?_eq_getElem hlt⟩
    have hcp := List.all_eq_true.1 hx c (List.mem_of_getElem? hc)
    have hv : mkV P e ((xs.drop (i * 1)).take 1) = c := by
      unfold mkV
      rw [ha, if_neg (by decide), Nat.mul_one, List.drop_eq_getElem_cons hlt]
      have : xs[i] = c := by
        have := List.getElem?_eq_getElem hlt
        rw [hc] at this; exact (Option.some.inj this).symm
      simp [this]
    rw [hv] at p1
    have p0 : (sizeOf e).run P w = .ok 1 w := run_sizeOf hs w
    have p2 : (Instr.checkKey em (n + 1) e c).run P w = .ok () w := plainKey hd hu hcp
    have ih := checkArr_ok (P := P) (em := em) (n := n) xs htk hu hx w l (fun j hj => hl j (by simp [hj]))
    simp only [List.forIn_cons, Sem.run_bind, Result.andThen_ok, p0, p1, p2, Sem.run_pure]
    exact ih
theorem checkKey_ok {P : Program} {kt : TypeId} {k : Value} (h : keyOk P kt k = true) (em : Bool) (n : Nat) (w : World) : (Instr.checkKey em (n + 2) kt k).run P w = .ok () w := by
  unfold keyOk at h
  split at h
  · rename_i s hu
    unfold Instr.checkKey
    simp [run_underlying (und_str hu)]
  · rename_i q a b hu
    unfold Instr.checkKey
    simp [run_underlying (und_int hu)]
  · rename_i cs hu
    obtain ⟨fs, hfs⟩ := und_struct hu
    split at h
    case h_2 => cases h
    rename_i m hm
    simp only [Bool.and_eq_true, decide_eq_true_eq] at h
    unfold keyStruct fieldsU at hm
    rw [hfs] at hm
    simp only at hm
    split at hm
    case isFalse => cases hm
    rename_i hp
    cases hm
    have := checkFs_ok (P := P) (em := em) (n := n) cs.toList h.2 w fs.toList 0 hp (by simpa using h.1.symm)
    unfold Instr.checkKey
    simp only [Sem.run_bind, run_underlying hfs, Result.andThen_ok]
    rw [← Array.forIn_toList]
    simp at this ⊢
    rw [this]
    simp [Result.andThen]
  · rename_i len e cs hu
    simp only [Bool.and_eq_true, decide_eq_true_eq] at h
    obtain ⟨⟨⟨h1, h2⟩, h3⟩, h4⟩ := h
    have := checkArr_ok (P := P) (em := em) (n := n) cs.toList h1 h2 h4 w (List.range' 0 len) (fun i hi => by
      have := List.mem_range'_1.1 hi
      simp; omega)
    unfold Instr.checkKey
    simp only [Sem.run_bind, run_underlying (und_arr hu), Result.andThen_ok]
    rw [Std.Legacy.Range.forIn_eq_forIn_range']
    simp at this ⊢
    rw [this]
    simp [Result.andThen]
  · cases h
theorem eqCells_true : ∀ {ks : List SK} {xs ys : List Value}, eqCells ks xs ys = some true → ys = xs
  | [], [], [], _ => rfl
  | [], [], _ :: _, h => by simp [eqCells] at h
  | [], _ :: _, _, h => by simp [eqCells] at h
  | k :: ks, [], _, h => by cases k <;> simp [eqCells] at h
  | k :: ks, x :: _, [], h => by cases k <;> cases x <;> simp [eqCells] at h
  | k :: ks, x :: xs, y :: ys, h => by
    have key : ∀ (q : Bool), (eqCells ks xs ys).map (q && ·) = some true → q = true ∧ ys = xs := by
      intro q hq
      cases e : eqCells ks xs ys with
      | none => rw [e] at hq; cases hq
      | some s =>
        rw [e] at hq
        simp only [Option.map_some, Option.some.injEq, Bool.and_eq_true] at hq
        exact ⟨hq.1, eqCells_true (by rw [e, hq.2])⟩
    cases k <;> cases x <;> cases y <;> simp only [eqCells] at h <;> first
      | (cases h; done)
      | (split at h
         · rename_i hk
           obtain ⟨h1, h2⟩ := key _ h
           subst h2
           simp at h1
           simp_all
         · cases h)
      | (obtain ⟨h1, h2⟩ := key _ h
         subst h2
         simp [bytes_beq] at h1
         simp_all)
theorem plain_same {c : Value} (h : (match c with | .bool _ | .int _ _ | .string _ => true | _ => false) = true) (n : Nat) : Instr.sameBits (n + 1) c c = true := by
  cases c <;> simp_all [Instr.sameBits, bytes_beq]
theorem zip_same (n : Nat) : ∀ (xs : List Value), xs.all (fun c => match c with | .bool _ | .int _ _ | .string _ => true | _ => false) = true → ((xs.zip xs).all fun (x, y) => Instr.sameBits (n + 1) x y) = true
  | [], _ => rfl
  | x :: xs, h => by
    simp only [List.all_cons, Bool.and_eq_true] at h
    simp only [List.zip_cons_cons, List.all_cons, Bool.and_eq_true]
    exact ⟨plain_same h.1 n, zip_same n xs h.2⟩
theorem keyEq_same {P : Program} {kt : TypeId} {k k' : Value} (hk : keyOk P kt k = true) (h : keyEq P kt k k' = some true) : k' = k ∧ ∀ n, Instr.sameBits (n + 2) k' k = true := by
  have heq : k' = k := by
    unfold keyEq at h
    split at h
    · split at h
      · rename_i a b
        simp [bytes_beq] at h
        rw [h]
      · cases h
    · split at h
      · rename_i q a q' b
        split at h
        · rename_i hq
          subst hq
          simp at h
          rw [h]
        · cases h
      · cases h
    · split at h
      · rename_i xs ys
        unfold qEq at h
        simp only at h
        split at h
        · have := eqCells_true h
          congr 1
          exact Array.toList_inj.1 this
        · cases h
      · cases h
    · split at h
      · rename_i xs ys
        unfold qEq at h
        simp only at h
        split at h
        · have := eqCells_true h
          congr 1
          exact Array.toList_inj.1 this
        · cases h
      · cases h
    · cases h
  refine ⟨heq, fun n => ?_⟩
  subst heq
  unfold keyOk at hk
  split at hk
  · simp [Instr.sameBits, bytes_beq]
  · simp [Instr.sameBits]
  · split at hk
    case h_2 => cases hk
    simp only [Bool.and_eq_true] at hk
    simp only [Instr.sameBits, beq_self_eq_true, Bool.true_and]
    exact zip_same n _ hk.2
  · simp only [Bool.and_eq_true] at hk
    simp only [Instr.sameBits, beq_self_eq_true, Bool.true_and]
    exact zip_same n _ hk.2
  · cases hk
def keyAgg (P : Program) (kt : TypeId) (k k' : Value) : Option Bool := match k, k' with
  | .agg xs, .agg ys => qEq P kt (.agg xs) (.agg ys)
  | _, _ => none
theorem findAsking_ok {P : Program} {kt : TypeId} {k : Value} (hu : ∀ k', keyEq P kt k k' = keyAgg P kt k k') (w : World) : ∀ (ents : List MapEntry) (i0 : Nat) (r : Option Nat), findM P kt k (ents.map fun e => (e.key, e.val)) = some r →
    (Instr.findAsking kt k ents i0).run P w = .ok (r.bind fun i => (ents[i]?).map fun e => (i0 + i, e.val)) w
  | [], i0, r, h => by
    simp only [List.map_nil, findM, Option.some.injEq] at h
    subst h
    simp [Instr.findAsking]
  | e :: es, i0, r, h => by
    simp only [List.map_cons, findM] at h
    split at h
    · rename_i he
      cases h
      rw [hu] at he
      unfold keyAgg at he
      split at he
      · have := qEq_ok he w
        simp_all [Instr.findAsking]
      · cases he
    · rename_i he
      have heq : (Op.equal kt k e.key).run P w = .ok false w := by
        rw [hu] at he
        unfold keyAgg at he
        split at he
        · rename_i hk1 hk2
          have := qEq_ok he w
          simp_all
        · cases he
      cases hr : findM P kt k (es.map fun e => (e.key, e.val)) with
      | none => rw [hr] at h; cases h
      | some r' =>
        rw [hr] at h
        simp only [Option.map_some, Option.some.injEq] at h
        subst h
        have ih := findAsking_ok (k := k) hu w es (i0 + 1) r' hr
        simp only [Instr.findAsking, Sem.run_bind, heq, Result.andThen_ok, Bool.false_eq_true, if_false, ih]
        cases r' with
        | none => simp
        | some i => simp [Nat.add_assoc, Nat.add_comm 1 i]
    · cases h
theorem findNow_ok {P : Program} {kt : TypeId} {k : Value} {d : TypeDesc} (hs : ∀ k', keyEq P kt k k' = Instr.sameNow d k k') : ∀ (ents : List MapEntry) (i0 : Nat) (r : Option Nat), findM P kt k (ents.map fun e => (e.key, e.val)) = some r →
    Instr.findNow d k ents i0 = some (r.bind fun i => (ents[i]?).map fun e => (i0 + i, e.val))
  | [], i0, r, h => by
    simp only [List.map_nil, findM, Option.some.injEq] at h
    subst h
    simp [Instr.findNow]
  | e :: es, i0, r, h => by
    simp only [List.map_cons, findM] at h
    rw [hs] at h
    unfold Instr.findNow
    split at h
    · rename_i he
      cases h
      rw [he]
      simp
    · rename_i he
      rw [he]
      cases hr : findM P kt k (es.map fun e => (e.key, e.val)) with
      | none => rw [hr] at h; cases h
      | some r' =>
        rw [hr] at h
        simp only [Option.map_some, Option.some.injEq] at h
        subst h
        simp only
        rw [findNow_ok hs es (i0 + 1) r' hr]
        cases r' with
        | none => simp
        | some i => simp [Nat.add_assoc, Nat.add_comm 1 i]
    · cases h
theorem findKey_ok {P : Program} {kt : TypeId} {k : Value} (hk : keyOk P kt k = true) {ents : List MapEntry} {r : Option Nat} (h : findM P kt k (ents.map fun e => (e.key, e.val)) = some r) (w : World) :
    (Instr.findKey kt k ents).run P w = .ok (r.bind fun i => (ents[i]?).map fun e => (i, e.val)) w := by
  have now : ∀ (d : TypeDesc), P.underlying kt = some d → (∀ k', keyEq P kt k k' = Instr.sameNow d k k') → (Instr.findKey kt k ents).run P w = .ok (r.bind fun i => (ents[i]?).map fun e => (i, e.val)) w := fun d hd hs => by
    have hf := findNow_ok hs ents 0 r h
    rw [run_findKey hd hf]
    simp
  have hk' := hk
  unfold keyOk at hk'
  split at hk'
  · rename_i s hu
    exact now .string (und_str hu) fun k' => by unfold keyEq; rw [hu]; cases k' <;> rfl
  · rename_i q a b hu
    exact now (.int q) (und_int hu) fun k' => by unfold keyEq; rw [hu]; cases k' <;> rfl
  · rename_i cs hu
    obtain ⟨fs, hfs⟩ := und_struct hu
    rw [run_findKey_eq w (by rw [hfs])]
    have := findAsking_ok (fun k' => by unfold keyEq keyAgg; rw [hu]) w ents 0 r h
    simpa using this
  · rename_i len e cs hu
    rw [run_findKey_eq w (by rw [und_arr hu])]
    have := findAsking_ok (fun k' => by unfold keyEq keyAgg; rw [hu]) w ents 0 r h
    simpa using this
  · cases hk'
theorem findM_some {P : Program} {kt : TypeId} {k : Value} : ∀ {ents : List MapEntry} {i : Nat}, findM P kt k (ents.map fun e => (e.key, e.val)) = some (some i) → ∃ e, ents[i]? = some e ∧ keyEq P kt k e.key = some true
  | [], i, h => by simp [findM] at h
  | e :: es, i, h => by
    simp only [List.map_cons, findM] at h
    split at h
    · rename_i he
      cases h
      exact ⟨e, rfl, he⟩
    · cases hr : findM P kt k (es.map fun e => (e.key, e.val)) with
      | none => rw [hr] at h; cases h
      | some r' =>
        rw [hr] at h
        cases r' with
        | none => cases h
        | some j =>
          simp only [Option.map_some, Option.some.injEq] at h
          subst h
          obtain ⟨e', h1, h2⟩ := findM_some hr
          exact ⟨e', by simpa using h1, h2⟩
    · cases h
end Go.Proofs.YtfpighmafofoeaaDoor.GL
