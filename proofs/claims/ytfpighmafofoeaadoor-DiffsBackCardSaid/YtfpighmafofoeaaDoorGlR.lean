/- Memory that is an object's own: what a call on it leaves as it was. -/
import Derived.Test.YtfpighmafofoeaaDoorGlZ
namespace Go.Proofs.YtfpighmafofoeaaDoor.GL
open Go Go.RowKit
set_option linter.unusedSimpArgs false
set_option linter.unusedVariables false

/-- R's blocks are the object's; of all other blocks nothing changed, and none came to be the object's. -/
structure Own (H R H1 R1 : Heap) : Prop where
  mv : ∀ b o, R b = none → H b = some o → R1 b = none ∧ H1 b = some o
  le : Heap.le R1 H1
def Off (F R : Heap) : Prop := ∀ b o, F b = some o → R b = none
section
variable {H R H1 R1 H2 R2 F : Heap}
theorem Own.refl (h : Heap.le R H) : Own H R H R := ⟨fun b o h1 h2 => ⟨h1, h2⟩, h⟩
theorem Own.trans (a : Own H R H1 R1) (c : Own H1 R1 H2 R2) : Own H R H2 R2 := ⟨fun b o h1 h2 => (c.mv b o (a.mv b o h1 h2).1 (a.mv b o h1 h2).2), c.le⟩
theorem Own.grow (a : Own H R H1 R1) (hl : Heap.le H1 H2) : Own H R H2 R1 := ⟨fun b o h1 h2 => ⟨(a.mv b o h1 h2).1, hl _ _ (a.mv b o h1 h2).2⟩, Heap.le_trans a.le hl⟩
theorem le_upd2' {D H : Heap} {b : Nat} (o : GObj) (h : Heap.le D H) : Heap.le (upd D b o) (upd H b o) := fun i p e => by
  by_cases hi : i = b
  · subst hi; rw [upd_same] at e ⊢; exact e
  · rw [upd_ne _ _ hi] at e ⊢; exact h i p e
theorem Own.set (a : Own H R H1 R1) {p : Nat} {o0 : GObj} (hp : R1 p = some o0) (o : GObj) : Own H R (upd H1 p o) (upd R1 p o) := by
  refine ⟨fun b x h1 h2 => ?_, le_upd2' _ a.le⟩
  obtain ⟨y, z⟩ := a.mv b x h1 h2
  have hb : b ≠ p := fun e => by subst e; rw [hp] at y; cases y
  rw [upd_ne _ _ hb, upd_ne _ _ hb]
  exact ⟨y, z⟩
theorem Own.add (a : Own H R H1 R1) {p : Nat} (hp : H1 p = none) (o : GObj) : Own H R (upd H1 p o) (upd R1 p o) := by
  refine ⟨fun b x h1 h2 => ?_, le_upd2' _ a.le⟩
  obtain ⟨y, z⟩ := a.mv b x h1 h2
  have hb : b ≠ p := fun e => by subst e; rw [hp] at z; cases z
  rw [upd_ne _ _ hb, upd_ne _ _ hb]
  exact ⟨y, z⟩
theorem Own.drop (a : Own H R H1 R1) {p : Nat} {o0 : GObj} (hp : R1 p = some o0) : Own H R (dele H1 p) (dele R1 p) := by
  refine ⟨fun b x h1 h2 => ?_, fun i x e => ?_⟩
  · obtain ⟨y, z⟩ := a.mv b x h1 h2
    have hb : b ≠ p := fun e => by subst e; rw [hp] at y; cases y
    rw [dele_ne _ hb, dele_ne _ hb]
    exact ⟨y, z⟩
  · by_cases hi : i = p
    · subst hi; rw [dele_same] at e; cases e
    · rw [dele_ne _ hi] at e ⊢; exact a.le _ _ e
/-- The object's memory may be told by less. -/
theorem Own.less (a : Own H R H1 R1) (hl : Heap.le R2 R1) : Own H R H1 R2 := ⟨fun b o h1 h2 => ⟨le_of_none hl (a.mv b o h1 h2).1, (a.mv b o h1 h2).2⟩, Heap.le_trans hl a.le⟩
/-- What else there is, stays. -/
theorem Own.frame (a : Own H R H1 R1) (hF : Heap.le F H) (ho : Off F R) : Heap.le F H1 ∧ Off F R1 := ⟨fun b o h => (a.mv b o (ho b o h) (hF b o h)).2, fun b o h => (a.mv b o (ho b o h) (hF b o h)).1⟩
theorem Off.symm (h : Off F R) : Off R F := fun b o e => by
  cases hf : F b with
  | none => rfl
  | some x => rw [h b x hf] at e; cases e
/-- An object that was made since. -/
theorem Own.new (hl : Heap.le H H1) {p : Nat} {o : GObj} (hp : H1 p = none) : Own H (fun _ => none) (upd H1 p o) (upd (fun _ => none) p o) :=
  (Own.grow ⟨fun b x _ h2 => ⟨rfl, h2⟩, fun _ _ h => by cases h⟩ hl).add hp o
theorem Own.nil (hl : Heap.le H H1) : Own H (fun _ => none) H1 (fun _ => none) := ⟨fun b x _ h2 => ⟨rfl, hl _ _ h2⟩, fun _ _ h => by cases h⟩
theorem Off.nil : Off F (fun _ => none) := fun _ _ _ => rfl
end

/-- A part of an element of a row is another one. -/
theorem rowsC_part {α : Type} {f : α → List Value} {s : Nat} (hf : ∀ x, (f x).length = s) {xs : List α} {k j : Nat} {x x' : α} {ys : List Value} (hk : xs[k]? = some x) (hj : j + ys.length ≤ s) (hx : f x' = splice (f x) j ys) : splice (rowsC f xs) (k * s + j) ys = rowsC f (xs.set k x') := by
  obtain ⟨hlt, hxk⟩ := List.getElem?_eq_some_iff.1 hk
  rw [← rowsC_set hf xs k x' hlt, hx]
  unfold splice
  have hfx : ((rowsC f xs).drop (k * s)).take s = f x := rowsC_at hf hk
  have hlen : (rowsC f xs).length = xs.length * s := rowsC_len hf xs
  have hle : (k + 1) * s ≤ xs.length * s := Nat.mul_le_mul_right _ hlt
  rw [Nat.succ_mul] at hle
  have h1 : (rowsC f xs).take (k * s + j) = (rowsC f xs).take (k * s) ++ (f x).take j := by
    rw [← hfx, List.take_take, Nat.min_eq_left (by omega), ← List.take_add]
  have h2 : (rowsC f xs).drop (k * s + j + ys.length) = (f x).drop (j + ys.length) ++ (rowsC f xs).drop (k * s + s) := by
    rw [← hfx, List.drop_take, List.drop_drop]
    have : (rowsC f xs).drop (k * s + s) = ((rowsC f xs).drop (k * s + (j + ys.length))).drop (s - (j + ys.length)) := by rw [List.drop_drop]; congr 1; omega
    rw [this, List.take_append_drop, Nat.add_assoc]
  have h3 : (List.take j (f x) ++ ys ++ List.drop (j + ys.length) (f x)).length = s := by
    simp [List.length_take, List.length_drop, hf]; omega
  rw [h1, h2, h3]
  simp only [List.append_assoc]
theorem splice_all {vs ys : List Value} (h : ys.length = vs.length) : splice vs 0 ys = ys := by
  unfold splice
  rw [List.take_zero, List.nil_append, Nat.zero_add, h, List.drop_length, List.append_nil]

/-- copy, into memory of the call's own. -/
theorem copy_own {P : Program} {H : Heap} {K : Kont} {t t1 e : TypeId} {x : Value} {b o dn dc off room s n : Nat} {vs ys : List Value} (hu : und P t = .slice e) (hs : sz P e = some s) (hsrc : srcOf P e t1 x H = some (n, ys)) (hni : und P t1 ≠ .int .i64) (hx : ∀ k z, x ≠ .int k z)
    (hl : ys.length = n * s) (hone : ys.all (·.oneCell') = true) (hrow : H b = some (.row true off vs room)) (ho : off ≤ o) (hfit : o - off + dn * s ≤ vs.length) (hK : K (.int .i64 (min n dn : Nat)) (upd H b (.row true off (splice vs (o - off) (ys.take (min n dn * s))) room))) :
    eCopy P t t1 (.slice (some ⟨b, o, none⟩) dn dc) x H K := by
  unfold eCopy
  rw [hu]
  simp only [hs, hsrc, hrow]
  refine ⟨⟨hni, hl, hone⟩, ?_, ⟨ho, hfit⟩, hK⟩
  cases x <;> first | trivial | exact absurd rfl (hx _ _)
end Go.Proofs.YtfpighmafofoeaaDoor.GL
