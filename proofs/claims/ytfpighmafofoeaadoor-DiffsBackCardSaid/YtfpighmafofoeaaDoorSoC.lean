/- Layer 20: the keys of a map, one by one (maps.Keys's own iterator). -/
import Derived.Test.YtfpighmafofoeaaDoorSoB
import Derived.RangeFuncNested
import Derived.RangeFuncBound
import Derived.RangeFuncCalls
import Derived.RangeFuncLeaves
import Derived.RangeFuncGives
import Derived.Shelf.Abstract
import Derived.Shelf.RegionOpen
import Derived.WalkKit
import Derived.OwnWalkIn
import Derived.TacticsInMore
import Derived.LoopNIn
import Derived.LoopIn
import Derived.Laws.IdiomRangeMap
import Derived.Test.YtfpighmafofoeaaDoorGlN
namespace Go.Proofs.YtfpighmafofoeaaDoor.GL
open Go Go.RowKit Go.Shelf
set_option maxRecDepth 100000
set_option pp.deepTerms.threshold 8
set_option pp.maxSteps 3000
set_option linter.unusedSimpArgs false
set_option linter.unusedVariables false

def encK (k : KZ) : Value := .agg #[.int .u16 k.t, .int .u32 k.s]
theorem run_next_at {P : Program} {w : World} {r m ck : Nat} {seen : Array Nat} {ents : Array MapEntry} (hi : w.heap[r]? = some (.mapIter (some m) ck seen ck)) (hb : w.heap[m]? = some (.map ents ck)) (hlts : ∀ e ∈ ents.toList, e.born < ck) :
    ((∀ e ∈ ents.toList, e.born ∈ seen.toList) ∧ ∀ ty, (Instr.next (.pointer (some ⟨r, 0, none⟩)) false ty).run P w = .ok (.tuple #[.bool false]) w) ∨
    (∃ e ∈ ents.toList, e.born ∉ seen.toList ∧ ∃ n', ∀ ty, (Instr.next (.pointer (some ⟨r, 0, none⟩)) false ty).run P w = .ok (.tuple #[.bool true, e.key, e.val]) { w with drawn := n', heap := w.heap.setIfInBounds r (.mapIter (some m) ck (seen.push e.born) ck) }) := by
  have hrlt : r < w.heap.size := (Array.getElem?_eq_some_iff.1 hi).1
  have hborn2 : ∀ e ∈ ents, e.born < ck := fun e he => hlts e (Array.mem_toList_iff.2 he)
  have hc1 : (!seen.isEmpty && !ents.isEmpty && ents.all (fun x => decide (x.born ≥ ck))) = false := by
    cases hz : ents.isEmpty with
    | true => simp
    | false =>
      have h0 : 0 < ents.size := by
        rcases Nat.eq_zero_or_pos ents.size with h0 | h0
        · rw [Array.isEmpty, h0] at hz; simp at hz
        · exact h0
      have hb0 := hborn2 ents[0] (Array.getElem_mem h0)
      have : ents.all (fun x => decide (x.born ≥ ck)) = false := by
        rw [Array.all_eq_false]
        exact ⟨0, h0, by simp; omega⟩
      simp [this]
  obtain ⟨lft, hlft⟩ : ∃ lft, ents.filter (fun e => !seen.contains e.born) = lft := ⟨_, rfl⟩
  have hold : lft.filter (fun e => decide (e.born < ck)) = lft := by
    rw [Array.filter_eq_self]
    intro e he
    rw [← hlft] at he
    simpa using hborn2 e (Array.mem_filter.1 he).1
  have hnew : lft.filter (fun e => decide (e.born ≥ ck)) = #[] := by
    rw [Array.filter_eq_empty_iff]
    intro e he
    rw [← hlft] at he
    have := hborn2 e (Array.mem_filter.1 he).1
    simp; omega
  cases hz : lft.isEmpty with
  | true =>
    left
    have hl0 : lft = #[] := by simpa using hz
    subst hl0
    refine ⟨fun e hx => ?_, fun ty => ?_⟩
    · rw [Array.filter_eq_empty_iff] at hlft
      have := hlft e (Array.mem_toList_iff.1 hx)
      simpa using this
    · simp only [Instr.next, Sem.run_bind, Result.andThen_ok, getIter_run hi, getMap_run hb, hc1, Bool.false_eq_true, if_false, hlft, hold, hnew, Array.append_empty]
      simp [run_choose, Question.forced, Result.andThen]
  | false =>
    right
    have hpos : 0 < lft.size := by
      rcases Nat.eq_zero_or_pos lft.size with h0 | h0
      · rw [Array.isEmpty, h0] at hz; simp at hz
      · exact h0
    have key : ∃ a n', a < lft.size ∧ ∀ ty, (Instr.next (.pointer (some ⟨r, 0, none⟩)) false ty).run P w = (Sem.run P
            (match (Array.map some lft)[a]? with
            | some (some e) => do
              setObj r (Obj.mapIter (some m) ck (seen.push e.born) ck)
              pure (Value.tuple #[Value.bool true, e.key, e.val])
            | some none => pure (Value.tuple #[Value.bool false])
            | none => stuck "Next: no such candidate")
            { w with drawn := n' }) := by
      by_cases hf : (Question.mapNext (Array.map some lft).size).forced = true
      · refine ⟨0, w.drawn, hpos, fun ty => ?_⟩
        simp only [Instr.next, Sem.run_bind, Result.andThen_ok, getIter_run hi, getMap_run hb, hc1, Bool.false_eq_true, if_false, hlft, hold, hnew, Array.append_empty, hz, Array.empty_append]
        rw [run_choose, if_pos hf]
        rfl
      · refine ⟨(Question.mapNext (Array.map some lft).size).cut (w.tape w.drawn (Question.mapNext (Array.map some lft).size)), w.drawn + 1, ?_, fun ty => ?_⟩
        rotate_left
        · simp only [Instr.next, Sem.run_bind, Result.andThen_ok, getIter_run hi, getMap_run hb, hc1, Bool.false_eq_true, if_false, hlft, hold, hnew, Array.append_empty, hz, Array.empty_append]
          rw [run_choose, if_neg hf]
          rfl
        · simp only [Question.cut, Array.size_map]
          exact Nat.mod_lt _ hpos
    obtain ⟨a, n', ha, hrun⟩ := key
    have hga : (Array.map some lft)[a]? = some (some lft[a]) := by simp [ha]
    have hmem : lft[a] ∈ ents.filter (fun e => !seen.contains e.born) := by rw [hlft]; exact Array.getElem_mem ha
    obtain ⟨hin2, hns⟩ := Array.mem_filter.1 hmem
    refine ⟨lft[a], Array.mem_toList_iff.2 hin2, by simpa using hns, n', fun ty => ?_⟩
    have hi' : ({ w with drawn := n' } : World).heap[r]? = some (.mapIter (some m) ck seen ck) := hi
    rw [hrun ty, hga]
    simp only [Sem.run_bind, setIter_run hi', Result.andThen_ok, Sem.run_pure]
theorem run_entry_at {P : Program} {w : World} {r m ck : Nat} {seen : Array Nat} {ents : Array MapEntry} {e : MapEntry} (hi : w.heap[r]? = some (.mapIter (some m) ck (seen.push e.born) ck)) (hb : w.heap[m]? = some (.map ents ck)) (he : e ∈ ents.toList) (hn : (ents.toList.map (·.born)).Nodup) :
    (Instr.entry (.pointer (some ⟨r, 0, none⟩))).run P w = .ok (.tuple #[e.key, e.val]) w := by
  have hf : ents.find? (·.born == e.born) = some e := by rw [← Array.find?_toList]; exact find_born e ents.toList hn he
  simp only [Instr.entry, Sem.run_bind, Result.andThen_ok, getIter_run hi, getMap_run hb, Array.back?_push, bne_self_eq_false, Bool.false_eq_true, if_false, hf]
  rfl
/-- What has come so far: of these entries, each once. -/
def CameK (ents : List MapEntry) (seen : List Nat) (ss : List KZ) : Prop := ∃ es : List MapEntry, (∀ e ∈ es, e ∈ ents) ∧ es.map (·.born) = seen ∧ seen.Nodup ∧ es.map (·.key) = ss.map encK
theorem encK_inj {x y : KZ} (h : encK x = encK y) : x = y := by
  obtain ⟨a, b⟩ := x; obtain ⟨c, d⟩ := y
  simp [encK] at h
  simp [h]
theorem map_encK : ∀ {a b : List KZ}, a.map encK = b.map encK → a = b
  | [], [], _ => rfl
  | [], _ :: _, h => by cases h
  | _ :: _, [], h => by cases h
  | x :: a, y :: b, h => by
    simp only [List.map_cons, List.cons.injEq] at h
    rw [encK_inj h.1, map_encK h.2]
theorem perm_of_encK : ∀ {a b : List KZ}, (a.map encK).Perm (b.map encK) → a.Perm b
  | [], b, h => by
    have : b = [] := by
      have := h.length_eq
      exact List.eq_nil_of_length_eq_zero (by simpa using this.symm)
    subst this; exact List.Perm.refl _
  | x :: a, b, h => by
    have hx : x ∈ b := by
      have : encK x ∈ b.map encK := h.subset (by simp)
      obtain ⟨y, hy, he⟩ := List.mem_map.1 this
      rw [← encK_inj he]; exact hy
    have hb := List.perm_cons_erase hx
    have h2 : (encK x :: a.map encK).Perm (encK x :: (b.erase x).map encK) := h.trans (hb.map encK)
    exact ((perm_of_encK (List.Perm.cons_inv h2)).cons x).trans hb.symm
theorem nodup_map {α β : Type} {f : α → β} {l : List α} (h : (l.map f).Nodup) : l.Nodup := List.Pairwise.of_map f (fun a b hab e => hab (by rw [e])) h
theorem nodup_le : ∀ {l m : List Nat}, l.Nodup → (∀ x ∈ l, x ∈ m) → l.length ≤ m.length
  | [], m, _, _ => Nat.zero_le _
  | x :: l, m, h, hs => by
    have hx := hs x (by simp)
    have ih := nodup_le (l := l) (m := m.erase x) (List.nodup_cons.1 h).2 fun y hy => by
      have hne : y ≠ x := fun e => (List.nodup_cons.1 h).1 (by rw [← e]; exact hy)
      exact (List.mem_erase_of_ne hne).2 (hs y (by simp [hy]))
    have h0 : 0 < m.length := List.length_pos_of_mem hx
    rw [List.length_erase_of_mem hx] at ih
    simp; omega
theorem CameK.all {ents : List MapEntry} {seen : List Nat} {ss ks : List KZ} (h : CameK ents seen ss) (hn : (ents.map (·.born)).Nodup) (ha : ∀ e ∈ ents, e.born ∈ seen) (hk : ents.map (·.key) = ks.map encK) : ss.Perm ks := by
  obtain ⟨es, h1, h2, h3, h4⟩ := h
  have hp : es.Perm ents := by
    have hen : es.Nodup := nodup_map (f := (·.born)) (by rw [h2]; exact h3)
    have hnn : ents.Nodup := nodup_map (f := (·.born)) hn
    rw [List.perm_ext_iff_of_nodup hen hnn]
    intro e
    refine ⟨h1 e, fun he => ?_⟩
    have hb := ha e he
    rw [← h2] at hb
    obtain ⟨e', he', hbe⟩ := List.mem_map.1 hb
    have : e' = e := born_inj hn (h1 e' he') he hbe
    rw [← this]; exact he'
  have := hp.map (·.key)
  rw [h4, hk] at this
  exact perm_of_encK this
theorem CameK.len {ents : List MapEntry} {seen : List Nat} {ss : List KZ} (h : CameK ents seen ss) {e : MapEntry} (he : e ∈ ents) (hs : e.born ∉ seen) : ss.length < ents.length := by
  obtain ⟨es, h1, h2, h3, h4⟩ := h
  have hl : ss.length = es.length := by have := congrArg List.length h4; simpa using this.symm
  have hl2 : seen.length = es.length := by rw [← h2]; simp
  have := nodup_le (l := e.born :: seen) (m := ents.map (·.born)) (List.nodup_cons.2 ⟨hs, h3⟩) fun x hx => by
    rcases List.mem_cons.1 hx with rfl | hx
    · exact List.mem_map_of_mem (f := fun e : MapEntry => e.born) he
    · rw [← h2] at hx
      obtain ⟨e', he', rfl⟩ := List.mem_map.1 hx
      exact List.mem_map_of_mem (f := fun e : MapEntry => e.born) (h1 e' he')
  simp at this
  omega
theorem CameK.step {ents : List MapEntry} {seen : List Nat} {ss : List KZ} (h : CameK ents seen ss) {e : MapEntry} (he : e ∈ ents) (hs : e.born ∉ seen) {x : KZ} (hx : e.key = encK x) : CameK ents (seen ++ [e.born]) (ss ++ [x]) := by
  obtain ⟨es, h1, h2, h3, h4⟩ := h
  refine ⟨es ++ [e], fun y hy => ?_, by rw [List.map_append, h2]; rfl, ?_, by rw [List.map_append, List.map_append, h4]; simp [hx]⟩
  · rcases List.mem_append.1 hy with hy | hy
    · exact h1 y hy
    · simp at hy; subst hy; exact he
  · rw [List.nodup_append]
    exact ⟨h3, by simp, fun a ha b hb hab => by simp at hb; subst hb; subst hab; exact hs ha⟩
end Go.Proofs.YtfpighmafofoeaaDoor.GL
