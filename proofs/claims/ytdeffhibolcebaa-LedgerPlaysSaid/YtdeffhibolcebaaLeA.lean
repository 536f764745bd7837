/- Layer 21: a ledger's accounts and keys; what its maps tell. -/
import Derived.Test.YtdeffhibolcebaaGlT
import Derived.Test.YtdeffhibolcebaaGlS
namespace Go.Proofs.Ytdeffhibolcebaa.GL
open Go Go.RowKit Go.MapKept
set_option maxRecDepth 10000
set_option pp.deepTerms.threshold 8
set_option pp.maxSteps 3000
set_option linter.unusedSimpArgs false
set_option linter.unusedVariables false

theorem s_eql {P : Program} {t : TypeId} {x y : ByteArray} : qBin P .eql t (.string x) (.string y) = some (.bool (decide (x = y))) := by
  obtain ⟨⟨l⟩⟩ := x
  obtain ⟨⟨m⟩⟩ := y
  refine (b_eqlT (P := P) (t := t) (x := l) (y := m)).trans ?_
  congr 2
  exact decide_eq_decide.2 mkS_inj.symm
theorem s_neq {P : Program} {t : TypeId} {x y : ByteArray} : qBin P .neq t (.string x) (.string y) = some (.bool !(decide (x = y))) := by
  obtain ⟨⟨l⟩⟩ := x
  obtain ⟨⟨m⟩⟩ := y
  refine (b_neqT (P := P) (t := t) (x := l) (y := m)).trans ?_
  congr 3
  exact decide_eq_decide.2 mkS_inj.symm
attribute [simp] s_eql s_neq
abbrev Acc := ByteArray × Int
structure LE where
  t : Int
  s : Int
  ans : ByteArray
  pan : ByteArray
  net : Int
  deriving DecidableEq
def fE (x : Acc) : Value × Value := (.string x.1, .int .i64 x.2)
def eV (x : LE) : Value := .agg #[.string x.ans, .string x.pan, .int .i64 x.net]
def eE (x : LE) : Value × Value := (.agg #[.int .u16 x.t, .int .u32 x.s], eV x)
def idxF (p : ByteArray) : List Acc → Option Nat
  | [] => none
  | x :: l => if x.1 = p then some 0 else (idxF p l).map (· + 1)
def idxE (t s : Int) : List LE → Option Nat
  | [] => none
  | x :: l => if x.t = t ∧ x.s = s then some 0 else (idxE t s l).map (· + 1)
theorem findF (p : ByteArray) : ∀ F : List Acc, findM Try.prog 9 (.string p) (F.map fE) = some (idxF p F)
  | [] => rfl
  | x :: l => by
    simp only [List.map_cons, findM, fE, keyEq, (by simp [facts] : und Try.prog 9 = .str), idxF]
    by_cases h : x.1 = p
    · have hb : (p == x.1) = true := (bytes_beq _ _).2 h.symm
      rw [hb]; simp [h]
    · have : (p == x.1) = false := by
        cases hb : (p == x.1) with
        | false => rfl
        | true => exact absurd ((bytes_beq _ _).1 hb).symm h
      simp only [this, h, if_false]
      have ih := findF p l

      rw [ih]; rfl
theorem findE (t s : Int) : ∀ L : List LE, findM Try.prog 38 (.agg #[.int .u16 t, .int .u32 s]) (L.map eE) = some (idxE t s L)
  | [] => rfl
  | x :: l => by
    have hk : keyEq Try.prog 38 (.agg #[.int .u16 t, .int .u32 s]) (.agg #[.int .u16 x.t, .int .u32 x.s]) = some (decide (x.t = t ∧ x.s = s)) := by
      simp only [keyEq, (by simp [facts] : und Try.prog 38 = .struct), qEq, (by simp [facts] : kinds Try.prog 38 = some [.int, .int])]
      simp [eqC_int, eqC_nil, Bool.decide_and, eq_comm]
    simp only [List.map_cons, findM, eE, hk, idxE]
    by_cases h : x.t = t ∧ x.s = s
    · simp [h]
    · simp only [h, decide_false, if_false]
      have ih := findE t s l

      rw [ih]; rfl
theorem key9 (p : ByteArray) : keyOk Try.prog 9 (.string p) = true := by
  simp [keyOk, (by simp [facts] : und Try.prog 9 = .str)]
theorem ks38 : keyStruct Try.prog 38 = some 2 := by kernel_rfl
theorem key38 (t s : Int) : keyOk Try.prog 38 (.agg #[.int .u16 t, .int .u32 s]) = true := by
  simp [keyOk, (by simp [facts] : und Try.prog 38 = .struct), ks38]
def gF (p : ByteArray) (F : List Acc) : Option Int := (idxF p F).bind fun i => (F[i]?).map (·.2)
def zE (t s : Int) : LE := ⟨t, s, ByteArray.empty, ByteArray.empty, 0⟩
def gE (t s : Int) (L : List LE) : Option LE := (idxE t s L).bind fun i => L[i]?
theorem idxF_lt {p : ByteArray} : ∀ {F : List Acc} {i : Nat}, idxF p F = some i → ∃ v, F[i]? = some (p, v)
  | [], i, h => by cases h
  | x :: l, i, h => by
    unfold idxF at h
    split at h
    · rename_i hx; cases h; exact ⟨x.2, by simp [← hx]⟩
    · cases hl : idxF p l with
      | none => rw [hl] at h; cases h
      | some k =>
        rw [hl] at h
        simp only [Option.map_some, Option.some.injEq] at h
        subst h
        obtain ⟨v, hv⟩ := idxF_lt hl
        exact ⟨v, by simpa using hv⟩
theorem idxE_lt {t s : Int} : ∀ {L : List LE} {i : Nat}, idxE t s L = some i → ∃ e, L[i]? = some e ∧ e.t = t ∧ e.s = s
  | [], i, h => by cases h
  | x :: l, i, h => by
    unfold idxE at h
    split at h
    · rename_i hx; cases h; exact ⟨x, rfl, hx⟩
    · cases hl : idxE t s l with
      | none => rw [hl] at h; cases h
      | some k =>
        rw [hl] at h
        simp only [Option.map_some, Option.some.injEq] at h
        subst h
        obtain ⟨v, hv⟩ := idxE_lt hl
        exact ⟨v, by simpa using hv⟩
section
variable {G : Heap} {fm lm : Nat} {F : List Acc} {L : List LE}
theorem lookF (p : ByteArray) (h : G fm = some (.map (F.map fE))) : qLook Try.prog 53 (.map (some fm)) (.string p) false G = some (.int .i64 ((gF p F).getD 0)) := by
  have hu : und Try.prog 53 = .map 9 2 := by simp [facts]
  have hz : zeroV Try.prog 2 = some (.int .i64 0) := by simp [facts]
  simp only [qLook, hu, h, key9, if_true, findF, gF]
  cases hi : idxF p F with
  | none => simp [hz]
  | some i =>
    obtain ⟨v, hv⟩ := idxF_lt hi
    simp [hv, fE]
theorem lookF2 (p : ByteArray) (h : G fm = some (.map (F.map fE))) : qLook Try.prog 53 (.map (some fm)) (.string p) true G = some (.tuple #[.int .i64 ((gF p F).getD 0), .bool (gF p F).isSome]) := by
  have hu : und Try.prog 53 = .map 9 2 := by simp [facts]
  have hz : zeroV Try.prog 2 = some (.int .i64 0) := by simp [facts]
  simp only [qLook, hu, h, key9, if_true, findF, gF]
  cases hi : idxF p F with
  | none => simp [hz]
  | some i =>
    obtain ⟨v, hv⟩ := idxF_lt hi
    simp [hv, fE]
theorem lookE (t s : Int) (h : G lm = some (.map (L.map eE))) : qLook Try.prog 54 (.map (some lm)) (.agg #[.int .u16 t, .int .u32 s]) false G = some (.agg #[.string ((gE t s L).getD (zE t s)).ans, .string ((gE t s L).getD (zE t s)).pan, .int .i64 ((gE t s L).getD (zE t s)).net]) := by
  have hu : und Try.prog 54 = .map 38 59 := by simp [facts]
  have hz : zeroV Try.prog 59 = some (.agg #[.string ByteArray.empty, .string ByteArray.empty, .int .i64 0]) := by simp [facts]
  simp only [qLook, hu, h, key38, if_true, findE, gE]
  cases hi : idxE t s L with
  | none => simp [hz, zE]
  | some i =>
    obtain ⟨e, he, _⟩ := idxE_lt hi
    simp [he, eE, eV]
theorem lookE2 (t s : Int) (h : G lm = some (.map (L.map eE))) : qLook Try.prog 54 (.map (some lm)) (.agg #[.int .u16 t, .int .u32 s]) true G = some (.tuple #[.agg #[.string ((gE t s L).getD (zE t s)).ans, .string ((gE t s L).getD (zE t s)).pan, .int .i64 ((gE t s L).getD (zE t s)).net], .bool (gE t s L).isSome]) := by
  have hu : und Try.prog 54 = .map 38 59 := by simp [facts]
  have hz : zeroV Try.prog 59 = some (.agg #[.string ByteArray.empty, .string ByteArray.empty, .int .i64 0]) := by simp [facts]
  simp only [qLook, hu, h, key38, if_true, findE, gE]
  cases hi : idxE t s L with
  | none => simp [hz, zE]
  | some i =>
    obtain ⟨e, he, _⟩ := idxE_lt hi
    simp [he, eE, eV]
def setM (p : ByteArray) (v : Int) (F : List Acc) : List Acc := match idxF p F with | some i => F.set i (p, v) | none => F ++ [(p, v)]
def setL (e : LE) (L : List LE) : List LE := match idxE e.t e.s L with | some i => L.set i e | none => L ++ [e]
theorem mapsetF {K : Kont} (p : ByteArray) (v : Int) (h : G fm = some (.map (F.map fE))) (hK : K undef (upd G fm (.map ((setM p v F).map fE)))) : eMapSet Try.prog 53 (.map (some fm)) (.string p) (.int .i64 v) G K := by
  have hu : und Try.prog 53 = .map 9 2 := by simp [facts]
  unfold eMapSet
  simp only [hu, h, key9, findF, true_and]
  unfold setM at hK
  cases hi : idxF p F with
  | none => simp only [hi] at hK ⊢; simpa [fE] using hK
  | some i => simp only [hi] at hK ⊢; simpa [fE, List.map_set] using hK
theorem mapsetE {K : Kont} (e : LE) (h : G lm = some (.map (L.map eE))) (hK : K undef (upd G lm (.map ((setL e L).map eE)))) : eMapSet Try.prog 54 (.map (some lm)) (.agg #[.int .u16 e.t, .int .u32 e.s]) (.agg #[.string e.ans, .string e.pan, .int .i64 e.net]) G K := by
  have hu : und Try.prog 54 = .map 38 59 := by simp [facts]
  unfold eMapSet
  simp only [hu, h, key38, findE, true_and]
  unfold setL at hK
  cases hi : idxE e.t e.s L with
  | none => simp only [hi] at hK ⊢; simpa [eE, eV] using hK
  | some i => simp only [hi] at hK ⊢; simpa [eE, eV, List.map_set] using hK
end
/-- A ledger's memory. -/
structure LAt (R : Heap) (p : Nat) (F : List Acc) (L : List LE) (fm lm : Nat) : Prop where
  row : R p = some (.row true 0 [.map (some fm), .map (some lm)] 0)
  fs : R fm = some (.map (F.map fE))
  es : R lm = some (.map (L.map eE))
theorem LAt.pf {R : Heap} {p : Nat} {F : List Acc} {L : List LE} {fm lm : Nat} (h : LAt R p F L fm lm) : p ≠ fm := fun e => by have := h.row; rw [e, h.fs] at this; cases this
theorem LAt.pl {R : Heap} {p : Nat} {F : List Acc} {L : List LE} {fm lm : Nat} (h : LAt R p F L fm lm) : p ≠ lm := fun e => by have := h.row; rw [e, h.es] at this; cases this
structure Led (R : Heap) (p : Nat) (F : List Acc) (L : List LE) (fm lm : Nat) : Prop extends LAt R p F L fm lm where
  fl : fm ≠ lm
end Go.Proofs.Ytdeffhibolcebaa.GL
