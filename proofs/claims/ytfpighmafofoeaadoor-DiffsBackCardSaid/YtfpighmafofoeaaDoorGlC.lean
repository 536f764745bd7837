/- The remaining operations that only compute or read: likeness of whole structs and arrays, conversions, building by value, len, min, max. -/
import Derived.Test.YtfpighmafofoeaaDoorGlB
import Derived.Laws.StructEq
import Derived.ChangeKeysEq
namespace Go.Proofs.YtfpighmafofoeaaDoor.GL
set_option linter.unusedSimpArgs false
set_option linter.unusedVariables false
open Go Go.RowKit

/-! ### Likeness -/
theorem eqCells_length : ∀ {ks : List SK} {xs ys : List Value} {r : Bool}, eqCells ks xs ys = some r → xs.length = ks.length ∧ ys.length = ks.length
  | [], [], [], _, _ => ⟨rfl, rfl⟩
  | [], [], _ :: _, _, h => by simp [eqCells] at h
  | [], _ :: _, _, _, h => by simp [eqCells] at h
  | k :: ks, [], _, _, h => by cases k <;> simp [eqCells] at h
  | k :: ks, x :: _, [], _, h => by cases k <;> cases x <;> simp [eqCells] at h
  | k :: ks, x :: xs, y :: ys, r, h => by
    have : ∃ s, eqCells ks xs ys = some s := by
      cases k <;> cases x <;> cases y <;> simp only [eqCells] at h <;> first
        | (cases h; done)
        | (split at h
           · cases e : eqCells ks xs ys with
             | none => rw [e] at h; cases h
             | some s => exact ⟨s, rfl⟩
           · cases h)
        | (cases e : eqCells ks xs ys with
             | none => rw [e] at h; cases h
             | some s => exact ⟨s, rfl⟩)
    obtain ⟨s, hs⟩ := this
    have := eqCells_length hs
    simp [this.1, this.2]

theorem eqCells_append : ∀ {ks ls : List SK} {xs ys : List Value} {r : Bool}, eqCells (ks ++ ls) xs ys = some r →
    ∃ r1 r2, eqCells ks (xs.take ks.length) (ys.take ks.length) = some r1 ∧ eqCells ls (xs.drop ks.length) (ys.drop ks.length) = some r2 ∧ r = (r1 && r2)
  | [], ls, xs, ys, r, h => ⟨true, r, by simp [eqCells], by simpa using h, by simp⟩
  | k :: ks, ls, [], ys, r, h => by cases k <;> simp [eqCells] at h
  | k :: ks, ls, x :: xs, [], r, h => by cases k <;> cases x <;> simp [eqCells] at h
  | k :: ks, ls, x :: xs, y :: ys, r, h => by
    have key : ∀ (q : Bool), (eqCells (ks ++ ls) xs ys).map (q && ·) = some r → ∃ r1 r2, (eqCells ks (xs.take ks.length) (ys.take ks.length)).map (q && ·) = some r1 ∧
        eqCells ls (xs.drop ks.length) (ys.drop ks.length) = some r2 ∧ r = (r1 && r2) := by
      intro q hq
      cases e : eqCells (ks ++ ls) xs ys with
      | none => rw [e] at hq; cases hq
      | some s =>
        rw [e] at hq
        obtain ⟨r1, r2, e1, e2, e3⟩ := eqCells_append e
        simp only [Option.map_some, Option.some.injEq] at hq
        exact ⟨q && r1, r2, by rw [e1]; rfl, e2, by rw [← hq, e3, Bool.and_assoc]⟩
    cases k <;> cases x <;> cases y <;> simp only [List.cons_append, eqCells] at h <;> first
      | (cases h; done)
      | (split at h
         · rename_i hk
           obtain ⟨r1, r2, e1, e2, e3⟩ := key _ h
           exact ⟨r1, r2, by simp only [List.length_cons, List.take_succ_cons, eqCells, if_pos hk]; exact e1, by simpa using e2, e3⟩
         · cases h)
      | (obtain ⟨r1, r2, e1, e2, e3⟩ := key _ h
         exact ⟨r1, r2, by simp only [List.length_cons, List.take_succ_cons, eqCells]; exact e1, by simpa using e2, e3⟩)

/-- Structs and arrays of numbers, bools and texts alone, one cell behind another: the cells' kinds. -/
def flatFs (P : Program) (fl : TypeId → Option (List SK)) : List Field → Nat → Option (List SK)
  | [], _ => some []
  | f :: fs, off => if (f.name != "_" && f.offset == off) = true then
      match fl f.type, tk P f.type with
      | some ks, some (_, s) => if s = ks.length then (flatFs P fl fs (off + s)).map (ks ++ ·) else none
      | _, _ => none
    else none

def flatK (P : Program) : Nat → TypeId → Option (List SK)
  | 0, _ => none
  | d + 1, t => match P.underlying t with
    | some .bool => some [.bool]
    | some (.int _) => some [.int]
    | some .string => some [.str]
    | some (.struct fs) => if P.stoodInHeld t = true then none else flatFs P (flatK P d) fs.toList 0
    | some (.array n e) => match flatK P d e, tk P e with
      | some ks, some (_, s) => if s = ks.length then some (List.replicate n ks).flatten else none
      | _, _ => none
    | _ => none

def mkV (P : Program) (t : TypeId) (xs : List Value) : Value := if isAg P t then .agg xs.toArray else xs.headD undef

def EqV (P : Program) (d : Nat) (t : TypeId) (ks : List SK) : Prop :=
  ∀ (xs ys : List Value) (r : Bool) (w : World), eqCells ks xs ys = some r → (Op.equalIn d t (mkV P t xs) (mkV P t ys)).run P w = .ok r w

theorem part_mkV {P : Program} {t : TypeId} {b : Bool} {s off : Nat} {xs : List Value} (ht : tk P t = some (b, s)) (h1 : b = false → s = 1) (hl : off + s ≤ xs.length) (w : World) :
    (part t xs.toArray off).run P w = .ok (mkV P t ((xs.drop off).take s)) w := by
  obtain ⟨d, hd, hs, ha⟩ := tk_spec ht
  refine part_ok ?_ w
  unfold partL mkV
  rw [ht, ha]
  cases b
  · have := h1 rfl
    subst this
    simp only [Bool.false_eq_true, if_false]
    cases hx : xs.drop off with
    | nil => simp at hx; omega
    | cons y ys =>
      have : xs[off]? = some y := by
        have h0 : (xs.drop off)[0]? = some y := by rw [hx]; rfl
        simpa [List.getElem?_drop] using h0
      simp [this]
  · simp

theorem flatK_one {P : Program} {d : Nat} {t : TypeId} {s : Nat} {ks : List SK} (h : flatK P d t = some ks) (ht : tk P t = some (false, s)) : ks.length = 1 := by
  obtain ⟨dd, hd, hs, ha⟩ := tk_spec ht
  cases d with
  | zero => simp [flatK] at h
  | succ d =>
    unfold flatK at h
    rw [hd] at h
    unfold isAg at ha
    rw [hd] at ha
    cases dd <;> simp_all <;> (rw [← h]; rfl)

theorem run_eqFields_flat {P : Program} {d : Nat} {fl : TypeId → Option (List SK)} (hfl : ∀ t ks, fl t = some ks → EqV P d t ks ∧ ∀ s, tk P t = some (false, s) → ks.length = 1) (xs ys : List Value) :
    ∀ (fs : List Field) (off : Nat) (ks : List SK) (r : Bool) (w : World), flatFs P fl fs off = some ks → eqCells ks (xs.drop off) (ys.drop off) = some r → (Op.eqFields d xs.toArray ys.toArray fs).run P w = .ok r w
  | [], off, ks, r, w, hf, h => by
    simp only [flatFs, Option.some.injEq] at hf
    subst hf
    have := eqCells_length h
    simp only [List.length_nil, List.length_eq_zero_iff] at this
    rw [this.1, this.2] at h
    simp [eqCells] at h
    simp [Op.eqFields, h]
  | f :: fs, off, ks, r, w, hf, h => by
    simp only [flatFs] at hf
    split at hf
    case isFalse => cases hf
    rename_i hno
    simp only [Bool.and_eq_true, bne_iff_ne, ne_eq, beq_iff_eq] at hno
    obtain ⟨hn, ho⟩ := hno
    split at hf
    case h_2 => cases hf
    rename_i k1 b s hk1 htk
    split at hf
    case isFalse => cases hf
    rename_i hsl
    cases hr : flatFs P fl fs (off + s) with
    | none => rw [hr] at hf; cases hf
    | some k2 =>
      rw [hr] at hf
      simp only [Option.map_some, Option.some.injEq] at hf
      subst hf
      have hlen := eqCells_length h
      obtain ⟨r1, r2, q1, q2, q3⟩ := eqCells_append h
      have one := (hfl f.type k1 hk1).2
      simp only [List.length_append, List.length_drop] at hlen
      by_cases hs0 : s = 0
      · -- a field of no cells
        have hz : off + s ≤ xs.length ∧ off + s ≤ ys.length ∨ (xs.length < off ∨ ys.length < off) := by omega
        rcases hz with hz | hz
        · have p1 := part_mkV (P := P) (xs := xs) (off := off) htk (fun hb => by subst hb; rw [hsl]; exact one s htk) hz.1 w
          have p2 := part_mkV (P := P) (xs := ys) (off := off) htk (fun hb => by subst hb; rw [hsl]; exact one s htk) hz.2 w
          rw [hsl] at p1 p2
          have p3 := (hfl f.type k1 hk1).1 _ _ r1 w q1
          have ih := run_eqFields_flat hfl xs ys fs (off + s) k2 r2 w hr (by rw [← List.drop_drop, ← List.drop_drop, hsl]; exact q2)
          simp only [Op.eqFields, hn, ne_eq, not_false_eq_true, if_true, ho, Sem.run_bind, p1, p2, p3, Result.andThen_ok]
          cases r1
          · simp [q3]
          · simp [q3, ih]
        · -- beyond the end: the cells are none; the model reads an empty part
          have hagg : b = true := by
            cases b
            · have := one s htk; omega
            · rfl
          subst hagg
          obtain ⟨dd, hd, hs, ha⟩ := tk_spec htk
          have p1 : ∀ zs : List Value, (part f.type zs.toArray off).run P w = .ok (mkV P f.type ((zs.drop off).take s)) w := fun zs => by
            refine part_ok ?_ w
            unfold partL mkV
            rw [htk, ha]
            simp
          have p3 := (hfl f.type k1 hk1).1 _ _ r1 w q1
          have ih := run_eqFields_flat hfl xs ys fs (off + s) k2 r2 w hr (by rw [← List.drop_drop, ← List.drop_drop, hsl]; exact q2)
          have p1x := p1 xs
          have p1y := p1 ys
          rw [hsl] at p1x p1y
          simp only [Op.eqFields, hn, ne_eq, not_false_eq_true, if_true, ho, Sem.run_bind, p1x, p1y, p3, Result.andThen_ok]
          cases r1
          · simp [q3]
          · simp [q3, ih]
      · have p1 := part_mkV (P := P) (xs := xs) (off := off) htk (fun hb => by subst hb; rw [hsl]; exact one s htk) (by omega) w
        have p2 := part_mkV (P := P) (xs := ys) (off := off) htk (fun hb => by subst hb; rw [hsl]; exact one s htk) (by omega) w
        rw [hsl] at p1 p2
        have p3 := (hfl f.type k1 hk1).1 _ _ r1 w q1
        have ih := run_eqFields_flat hfl xs ys fs (off + s) k2 r2 w hr (by rw [← List.drop_drop, ← List.drop_drop, hsl]; exact q2)
        simp only [Op.eqFields, hn, ne_eq, not_false_eq_true, if_true, ho, Sem.run_bind, p1, p2, p3, Result.andThen_ok]
        cases r1
        · simp [q3]
        · simp [q3, ih]

theorem run_eqItems_flat {P : Program} {d : Nat} {e : TypeId} {b : Bool} {s : Nat} {ks : List SK} (htk : tk P e = some (b, s)) (hsl : s = ks.length) (h1 : b = false → s = 1) (hv : EqV P d e ks) (xs ys : List Value) (n : Nat)
    (hx : xs.length = n * s) (hy : ys.length = n * s) :
    ∀ (m k : Nat) (r : Bool) (w : World), k + m = n → eqCells (List.replicate m ks).flatten (xs.drop (k * s)) (ys.drop (k * s)) = some r → (Op.eqItems d e s xs.toArray ys.toArray (List.range' k m)).run P w = .ok r w
  | 0, k, r, w, hk, h => by
    have : k = n := by omega
    subst this
    rw [List.drop_of_length_le (by omega), List.drop_of_length_le (by omega)] at h
    simp [eqCells] at h
    simp [Op.eqItems, h]
  | m + 1, k, r, w, hk, h => by
    have hb : k * s + s ≤ n * s := by rw [← Nat.succ_mul]; exact Nat.mul_le_mul_right s (by omega)
    simp only [List.replicate_succ, List.flatten_cons] at h
    obtain ⟨r1, r2, q1, q2, q3⟩ := eqCells_append h
    have p1 := part_mkV (P := P) (xs := xs) (off := k * s) htk h1 (by omega) w
    have p2 := part_mkV (P := P) (xs := ys) (off := k * s) htk h1 (by omega) w
    rw [← hsl] at q1
    have p3 := hv _ _ r1 w q1
    have ih := run_eqItems_flat htk hsl h1 hv xs ys n hx hy m (k + 1) r2 w (by omega) (by rw [Nat.succ_mul, ← List.drop_drop, ← List.drop_drop]; rw [← hsl] at q2; exact q2)
    simp only [List.range'_succ, Op.eqItems, Sem.run_bind, p1, p2, p3, Result.andThen_ok]
    cases r1
    · simp [q3]
    · simp [q3, ih]

theorem flat_eq {P : Program} (k : Nat) : ∀ (d : Nat) (t : TypeId) (ks : List SK), flatK P d t = some ks → EqV P (k + d) t ks
  | 0, t, ks, h => by simp [flatK] at h
  | d + 1, t, ks, h => by
    intro xs ys r w he
    have hlen := eqCells_length he
    unfold flatK at h
    split at h
    · rename_i hu
      simp only [Option.some.injEq] at h
      subst h
      obtain ⟨x, rfl⟩ := List.length_eq_one_iff.1 hlen.1
      obtain ⟨y, rfl⟩ := List.length_eq_one_iff.1 hlen.2
      have ha : isAg P t = false := by unfold isAg; rw [hu]
      cases x <;> cases y <;> simp only [eqCells] at he <;> try (cases he; done)
      simp at he
      subst he
      simp [mkV, ha, ← Nat.add_assoc, Op.equalIn, run_underlying hu]
    · rename_i k' hu
      simp only [Option.some.injEq] at h
      subst h
      obtain ⟨x, rfl⟩ := List.length_eq_one_iff.1 hlen.1
      obtain ⟨y, rfl⟩ := List.length_eq_one_iff.1 hlen.2
      have ha : isAg P t = false := by unfold isAg; rw [hu]
      cases x <;> cases y <;> simp only [eqCells] at he <;> try (cases he; done)
      split at he
      · rename_i hk
        simp at he
        subst he
        simp [mkV, ha, ← Nat.add_assoc, Op.equalIn, run_underlying hu, hk]
      · cases he
    · rename_i hu
      simp only [Option.some.injEq] at h
      subst h
      obtain ⟨x, rfl⟩ := List.length_eq_one_iff.1 hlen.1
      obtain ⟨y, rfl⟩ := List.length_eq_one_iff.1 hlen.2
      have ha : isAg P t = false := by unfold isAg; rw [hu]
      cases x <;> cases y <;> simp only [eqCells] at he <;> try (cases he; done)
      simp at he
      subst he
      simp [mkV, ha, ← Nat.add_assoc, Op.equalIn, run_underlying hu]
    · rename_i fs hu
      split at h
      · cases h
      · rename_i hst
        have ha : isAg P t = true := by unfold isAg; rw [hu]
        have hf : P.fieldsOf t = fs := by simp [Program.fieldsOf, hu]
        simp only [mkV, ha, if_true, ← Nat.add_assoc]
        rw [run_equalIn_struct w (k + d) t _ _ (by rw [hf]; exact hu) (by simpa using hst), hf]
        exact run_eqFields_flat (fl := flatK P d) (fun t' ks' h' => ⟨flat_eq k d t' ks' h', fun s hs => flatK_one h' hs⟩) xs ys fs.toList 0 ks r w h (by simpa using he)
    · rename_i n e hu
      split at h
      case h_2 => cases h
      rename_i k1 b s hk1 htk
      split at h
      case isFalse => cases h
      rename_i hsl
      simp only [Option.some.injEq] at h
      subst h
      have ha : isAg P t = true := by unfold isAg; rw [hu]
      obtain ⟨dd, hd, hs, hb⟩ := tk_spec htk
      have hc : P.cellsOf e = s := by
        unfold sz at hs
        unfold Program.cellsOf
        rw [hs]; rfl
      have hi : ∃ i, P.info? e = some i := by
        unfold sz at hs
        cases hq : P.info? e with
        | none => rw [hq] at hs; cases hs
        | some i => exact ⟨i, rfl⟩
      obtain ⟨i, hi⟩ := hi
      simp only [mkV, ha, if_true, ← Nat.add_assoc]
      rw [run_equalIn_array w (k + d) _ _ hu hi, hc, List.range_eq_range']
      have hl : (List.replicate n k1).flatten.length = n * s := by simp [hsl]
      rw [hl] at hlen
      exact run_eqItems_flat htk hsl (fun h => by subst h; rw [hsl]; exact flatK_one hk1 htk) (flat_eq k d e k1 hk1) xs ys n hlen.1 hlen.2 n 0 r w (by omega) (by simpa using he)
    · cases h

end Go.Proofs.YtfpighmafofoeaaDoor.GL
