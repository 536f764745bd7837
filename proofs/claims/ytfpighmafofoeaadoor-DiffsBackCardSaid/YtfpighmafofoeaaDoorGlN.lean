/- Operations on maps. -/
import Derived.Test.YtfpighmafofoeaaDoorGlF
import Derived.Test.YtfpighmafofoeaaDoorGlM
namespace Go.Proofs.YtfpighmafofoeaaDoor.GL
set_option linter.unusedSimpArgs false
set_option linter.unusedVariables false
open Go Go.RowKit

def qLook (P : Program) (t : TypeId) (x k : Value) (ok : Bool) (H : Heap) : Option Value :=
  match und P t, x with
  | .map kt et, .map (some r) => match H r with
    | some (.map es) => if keyOk P kt k = true then
        match findM P kt k es with
        | some (some i) => (es[i]?).map fun e => if ok = true then .tuple #[e.2, .bool true] else e.2
        | some none => (zeroV P et).map fun z => if ok = true then .tuple #[z, .bool false] else z
        | none => none
      else none
    | some (.mapG _ es) => if keyOk P kt k = true then
        match findM P kt k (es.map (·.2)) with
        | some (some i) => (es[i]?).map fun e => if ok = true then .tuple #[e.2.2, .bool true] else e.2.2
        | some none => (zeroV P et).map fun z => if ok = true then .tuple #[z, .bool false] else z
        | none => none
      else none
    | _ => none
  | _, _ => none
def setG (es : List (Nat × Value × Value)) (i : Nat) (k v : Value) : List (Nat × Value × Value) := es.modify i fun e => (e.1, k, v)
def eMapSet (P : Program) (t : TypeId) (x k v : Value) (H : Heap) (K : Kont) : Prop :=
  match und P t, x with
  | .map kt _, .map (some r) => match H r with
    | some (.map es) => keyOk P kt k = true ∧ match findM P kt k es with
      | some (some i) => K undef (upd H r (.map (es.set i (k, v))))
      | some none => K undef (upd H r (.map (es ++ [(k, v)])))
      | none => False
    | some (.mapG ck es) => keyOk P kt k = true ∧ match findM P kt k (es.map (·.2)) with
      | some (some i) => K undef (upd H r (.mapG ck (setG es i k v)))
      | some none => K undef (upd H r (.mapG (ck + 1) (es ++ [(ck, k, v)])))
      | none => False
    | _ => False
  | _, _ => False
def eDelete (P : Program) (t : TypeId) (x k : Value) (H : Heap) (K : Kont) : Prop :=
  match und P t, x with
  | .map kt _, .map (some r) => match H r with
    | some (.mapG ck es) => keyOk P kt k = true ∧ match findM P kt k (es.map (·.2)) with
      | some (some i) => K (.tuple #[]) (upd H r (.mapG ck (es.eraseIdx i)))
      | some none => K (.tuple #[]) H
      | none => False
    | _ => False
  | _, _ => False
def eMakeMap (H : Heap) (K : Kont) : Prop := ∀ b, H b = none → K (.map (some b)) (upd H b (.map []))
def eMakeMapG (H : Heap) (K : Kont) : Prop := ∀ b, H b = none → K (.map (some b)) (upd H b (.mapG 0 []))
def eRange (P : Program) (t : TypeId) (x : Value) (H : Heap) (K : Kont) : Prop :=
  match und P t, x with
  | .map _ _, .map (some m) => match H m with
    | some (.map es) => ∀ b, H b = none → K (.pointer (some ⟨b, 0, none⟩)) (upd H b (.iter m es.length [] es.length))
    | some (.mapG ck es) => ∀ b, H b = none → K (.pointer (some ⟨b, 0, none⟩)) (upd H b (.iter m ck [] ck))
    | _ => False
  | _, _ => False
def eNext (it : Value) (H : Heap) (K : Kont) : Prop :=
  match it with
  | .pointer (some ⟨r, 0, none⟩) => match H r with
    | some (.iter m since seen last) => match H m with
      | some (.map es) => (since = es.length ∧ last = es.length) ∧ ((∀ i, i < es.length → i ∈ seen) → K (.tuple #[.bool false]) H) ∧
          ∀ (i : Nat) (e : Value × Value), i ∉ seen → es[i]? = some e → K (.tuple #[.bool true, e.1, e.2]) (upd H r (.iter m since (seen ++ [i]) last))
      | some (.mapG ck es) => (es.map (·.1)).Nodup → (since = ck ∧ last = ck) ∧ ((∀ e ∈ es, e.1 ∈ seen) → K (.tuple #[.bool false]) H) ∧
          ∀ e ∈ es, e.1 ∉ seen → K (.tuple #[.bool true, e.2.1, e.2.2]) (upd H r (.iter m since (seen ++ [e.1]) last))
      | _ => False
    | _ => False
  | _ => False
def qEntry (it : Value) (H : Heap) : Option Value :=
  match it with
  | .pointer (some ⟨r, 0, none⟩) => match H r with
    | some (.iter m since seen last) => match H m with
      | some (.map es) => if last = es.length then (seen.getLast?).bind fun i => (es[i]?).map fun e => .tuple #[e.1, e.2] else none
      | some (.mapG ck es) => if last = ck then (seen.getLast?).bind fun i => (es.find? (·.1 == i)).map fun e => .tuple #[e.2.1, e.2.2] else none
      | _ => none
    | _ => none
  | _ => none

section
variable {P : Program} {W0 w : World} {H : Heap} {K : Kont}
theorem Sat.map (h : Sat W0 w H) {r : Nat} {es : List (Value × Value)} (hr : H r = some (.map es)) : W0.heap.size ≤ r ∧ ∃ ents : Array MapEntry, w.heap[r]? = some (.map ents ents.size) ∧ ents.toList.map (fun e => (e.key, e.val)) = es ∧ ∀ (i : Nat) (e : MapEntry), ents[i]? = some e → e.born = i :=
  ⟨(show MapRep _ _ _ _ from h.rep r _ hr).le, (show MapRep _ _ _ _ from h.rep r _ hr).is⟩
theorem Sat.mapG (h : Sat W0 w H) {r ck : Nat} {es : List (Nat × Value × Value)} (hr : H r = some (.mapG ck es)) : MapGRep W0.heap.size w r ck es := h.rep r _ hr
theorem kv_of {ents : List MapEntry} {es : List (Nat × Value × Value)} (h : ents.map (fun e => (e.born, e.key, e.val)) = es) : ents.map (fun e => (e.key, e.val)) = es.map (·.2) := by
  rw [← h, List.map_map]; rfl
theorem getMap_run {r : Nat} {es : Array MapEntry} {c : Nat} (h : w.heap[r]? = some (.map es c)) : (getObj r).run P w = .ok (.map es c) w := by simp [getObj, Sem.run, h]
theorem getIter_run {r m s l : Nat} {seen : Array Nat} (h : w.heap[r]? = some (.mapIter (some m) s seen l)) : (getObj r).run P w = .ok (.mapIter (some m) s seen l) w := by simp [getObj, Sem.run, h]
theorem setMap_run {r : Nat} {es : Array MapEntry} {c : Nat} {o' : Obj} (h : w.heap[r]? = some (.map es c)) : (setObj r o').run P w = .ok () { w with heap := w.heap.setIfInBounds r o' } := by
  simp [setObj, Sem.run, h]
theorem setIter_run {r m s l : Nat} {seen : Array Nat} {o' : Obj} (h : w.heap[r]? = some (.mapIter (some m) s seen l)) : (setObj r o').run P w = .ok () { w with heap := w.heap.setIfInBounds r o' } := by
  simp [setObj, Sem.run, h]
theorem zeroV_run {t : TypeId} {z : Value} (hz : zeroV P t = some z) : (zeroValue t).run P w = .ok z w := run_zeroValue hz w
theorem look_ok {t : TypeId} {x k v : Value} {ok : Bool} (h : Sat W0 w H) (hq : qLook P t x k ok H = some v) : (Instr.lookup t x k ok).run P w = .ok v w := by
  unfold qLook at hq
  split at hq
  case h_2 => cases hq
  rename_i kt et r hu
  split at hq
  case h_3 => cases hq
  case h_2 ck es hr =>
    split at hq
    case isFalse => cases hq
    rename_i hk
    obtain ⟨_, ⟨ents, he, hes⟩, _, _⟩ := h.mapG hr
    have hkv := kv_of hes
    have hc := checkKey_ok hk ents.isEmpty 9998 w
    split at hq
    · rename_i i hf
      rw [← hkv] at hf
      have hfk := findKey_ok hk hf w
      cases hei : es[i]? with
      | none => rw [hei] at hq; cases hq
      | some e =>
        rw [hei] at hq
        simp only [Option.map_some, Option.some.injEq] at hq
        rw [← hes, List.getElem?_map] at hei
        cases hg : ents.toList[i]? with
        | none => rw [hg] at hei; cases hei
        | some me =>
          rw [hg] at hei
          simp only [Option.map_some, Option.some.injEq] at hei
          simp only [Option.bind_some, hg, Option.map_some] at hfk
          subst hei
          simp only [Instr.lookup, Sem.run_bind, run_underlying (und_map hu), Result.andThen_ok, getMap_run he, hc, hfk, Sem.run_pure]
          rw [← hq]
    · rename_i hf
      rw [← hkv] at hf
      have hfk := findKey_ok hk hf w
      cases hz : zeroV P et with
      | none => rw [hz] at hq; cases hq
      | some z =>
        rw [hz] at hq
        simp only [Option.map_some, Option.some.injEq] at hq
        simp only [Option.bind_none] at hfk
        simp only [Instr.lookup, Sem.run_bind, run_underlying (und_map hu), Result.andThen_ok, getMap_run he, hc, hfk, Sem.run_pure, zeroV_run hz]
        rw [← hq]
    · cases hq
  rename_i es hr
  split at hq
  case isFalse => cases hq
  rename_i hk
  obtain ⟨_, ents, he, hes, _⟩ := h.map hr
  have hc := checkKey_ok hk ents.isEmpty 9998 w
  split at hq
  · rename_i i hf
    rw [← hes] at hf
    have hfk := findKey_ok hk hf w
    cases hei : es[i]? with
    | none => rw [hei] at hq; cases hq
    | some e =>
      rw [hei] at hq
      simp only [Option.map_some, Option.some.injEq] at hq
      rw [← hes, List.getElem?_map] at hei
      cases hg : ents.toList[i]? with
      | none => rw [hg] at hei; cases hei
      | some me =>
        rw [hg] at hei
        simp only [Option.map_some, Option.some.injEq] at hei
        simp only [Option.bind_some, hg, Option.map_some] at hfk
        subst hei
        simp only [Instr.lookup, Sem.run_bind, run_underlying (und_map hu), Result.andThen_ok, getMap_run he, hc, hfk, Sem.run_pure]
        rw [← hq]
  · rename_i hf
    rw [← hes] at hf
    have hfk := findKey_ok hk hf w
    cases hz : zeroV P et with
    | none => rw [hz] at hq; cases hq
    | some z =>
      rw [hz] at hq
      simp only [Option.map_some, Option.some.injEq] at hq
      simp only [Option.bind_none] at hfk
      simp only [Instr.lookup, Sem.run_bind, run_underlying (und_map hu), Result.andThen_ok, getMap_run he, hc, hfk, Sem.run_pure, zeroV_run hz]
      rw [← hq]
  · cases hq
theorem makeMap_ok {t : TypeId} (h : Sat W0 w H) (he : eMakeMap H K) : StepOk P W0 K ((do pure (Next.value (← Instr.makeMap t none)) : Sem Next).run P w) := by
  have hk := he w.heap.size h.fresh
  have hn := h.new (.map #[] 0) (.map []) ⟨h.below.size, #[], (Go.MapKept.heap_alloc w _).1, rfl, fun i e hi => by simp at hi⟩
  simp only [Instr.makeMap, Sem.run_bind, run_newObj, Result.andThen_ok, Sem.run_pure, StepOk]
  exact ⟨_, hk, hn⟩
theorem makeMapG_ok {t : TypeId} (h : Sat W0 w H) (he : eMakeMapG H K) : StepOk P W0 K ((do pure (Next.value (← Instr.makeMap t none)) : Sem Next).run P w) := by
  have hk := he w.heap.size h.fresh
  have hn := h.new (.map #[] 0) (.mapG 0 []) ⟨h.below.size, ⟨#[], (Go.MapKept.heap_alloc w _).1, rfl⟩, fun e he => (by cases he), List.nodup_nil⟩
  simp only [Instr.makeMap, Sem.run_bind, run_newObj, Result.andThen_ok, Sem.run_pure, StepOk]
  exact ⟨_, hk, hn⟩
theorem mapSet_ok {t : TypeId} {x k v : Value} (h : Sat W0 w H) (he : eMapSet P t x k v H K) : StepOk P W0 K ((do Instr.mapUpdate t x k v; pure Next.skip : Sem Next).run P w) := by
  unfold eMapSet at he
  split at he
  case h_2 => exact he.elim
  rename_i kt et r hu
  split at he
  case h_3 => exact he.elim
  case h_2 ck es hr =>
    obtain ⟨hk, he⟩ := he
    obtain ⟨hB, ⟨ents, hb, hes⟩, hlts, hnd⟩ := h.mapG hr
    have hkv := kv_of hes
    have hlt : r < w.heap.size := (Array.getElem?_eq_some_iff.1 hb).1
    have hc := checkKey_ok hk false 9998 w
    split at he
    · rename_i i hf
      rw [← hkv] at hf
      have hfk := findKey_ok hk hf w
      obtain ⟨e', hei, hkey⟩ : ∃ e, ents.toList[i]? = some e ∧ keyEq P kt k e.key = some true := findM_some hf
      obtain ⟨hkk, hsb⟩ := keyEq_same hk hkey
      have hei2 : ents[i]? = some e' := by rw [← Array.getElem?_toList]; exact hei
      simp only [Option.bind_some, hei, Option.map_some] at hfk
      have hst : (Instr.keyThatStays e'.key k).run P w = .ok k w := by
        simp [Instr.keyThatStays, hsb 9998]
      simp only [Instr.mapUpdate, Sem.run_bind, run_underlying (und_map hu), Result.andThen_ok, getMap_run hb, hc, hfk, hei2, Option.map_some, Option.getD_some, hst, setMap_run hb, Sem.run_pure, StepOk]
      have hmod : (ents.modify i fun e => { e with key := k, val := v }).toList.map (fun e => (e.born, e.key, e.val)) = setG es i k v := by
        rw [← hes]
        unfold setG
        apply List.ext_getElem?
        intro j
        simp only [Array.toList_modify, List.getElem?_map, List.getElem?_modify]
        by_cases hij : i = j
        · subst hij
          simp [hei]
        · simp [hij]
      have hst1 : (setG es i k v).map (·.1) = es.map (·.1) := by
        unfold setG
        apply List.ext_getElem?
        intro j
        simp only [List.getElem?_map, List.getElem?_modify]
        cases es[j]? with
        | none => simp
        | some e => by_cases hij : i = j <;> simp [hij]
      refine ⟨_, he, h.setObj hB hlt _ _ ⟨hB, ⟨ents.modify i fun e => { e with key := k, val := v }, by simp [hlt], hmod⟩, fun e hx => ?_, by rw [hst1]; exact hnd⟩⟩
      have : e.1 ∈ es.map (·.1) := by rw [← hst1]; exact List.mem_map_of_mem hx
      obtain ⟨e2, h2, h3⟩ := List.mem_map.1 this
      rw [← h3]; exact hlts e2 h2
    · rename_i hf
      rw [← hkv] at hf
      have hfk := findKey_ok hk hf w
      simp only [Option.bind_none] at hfk
      simp only [Instr.mapUpdate, Sem.run_bind, run_underlying (und_map hu), Result.andThen_ok, getMap_run hb, hc, hfk, setMap_run hb, Sem.run_pure, StepOk]
      refine ⟨_, he, h.setObj hB hlt _ _ ⟨hB, ⟨ents.push { key := k, val := v, born := ck }, by simp [hlt], by simp [← hes]⟩, fun e hx => ?_, ?_⟩⟩
      · rcases List.mem_append.1 hx with hx | hx
        · exact Nat.lt_succ_of_lt (hlts e hx)
        · simp at hx; subst hx; exact Nat.lt_succ_self _
      · rw [List.map_append, List.map_cons, List.map_nil, List.nodup_append]
        refine ⟨hnd, by simp, fun a ha b hb' hab => ?_⟩
        simp at hb'
        obtain ⟨e2, h2, h3⟩ := List.mem_map.1 ha
        have := hlts e2 h2
        omega
    · exact he.elim
  rename_i es hr
  obtain ⟨hk, he⟩ := he
  obtain ⟨hB, ents, hb, hes, hborn⟩ := h.map hr
  have hlt : r < w.heap.size := (Array.getElem?_eq_some_iff.1 hb).1
  have hc := checkKey_ok hk false 9998 w
  split at he
  · rename_i i hf
    rw [← hes] at hf
    have hfk := findKey_ok hk hf w
    obtain ⟨e', hei, hkey⟩ : ∃ e, ents.toList[i]? = some e ∧ keyEq P kt k e.key = some true := findM_some hf
    obtain ⟨hkk, hsb⟩ := keyEq_same hk hkey
    have hei2 : ents[i]? = some e' := by rw [← Array.getElem?_toList]; exact hei
    simp only [Option.bind_some, hei, Option.map_some] at hfk
    have hst : (Instr.keyThatStays e'.key k).run P w = .ok k w := by
      simp [Instr.keyThatStays, hsb 9998]
    simp only [Instr.mapUpdate, Sem.run_bind, run_underlying (und_map hu), Result.andThen_ok, getMap_run hb, hc, hfk, hei2, Option.map_some, Option.getD_some, hst, setMap_run hb, Sem.run_pure, StepOk]
    refine ⟨_, he, h.setObj hB hlt _ _ ⟨hB, ents.modify i fun e => { e with key := k, val := v }, by simp [hlt], ?_, ?_⟩⟩
    · rw [← hes]
      apply List.ext_getElem?
      intro j
      have hil : i < ents.size := (Array.getElem?_eq_some_iff.1 hei2).1
      simp only [Array.toList_modify, List.getElem?_map, List.getElem?_modify, List.getElem?_set, List.length_map]
      by_cases hij : i = j
      · subst hij
        simp [hei, hil]
      · simp [hij]
    · intro j e hj
      simp only [Array.getElem?_modify] at hj
      split at hj
      · cases hg : ents[j]? with
        | none => rw [hg] at hj; cases hj
        | some e0 =>
          rw [hg] at hj
          simp only [Option.map_some, Option.some.injEq] at hj
          rw [← hj]
          exact hborn j e0 hg
      · exact hborn j e hj
  · rename_i hf
    rw [← hes] at hf
    have hfk := findKey_ok hk hf w
    simp only [Option.bind_none] at hfk
    simp only [Instr.mapUpdate, Sem.run_bind, run_underlying (und_map hu), Result.andThen_ok, getMap_run hb, hc, hfk, setMap_run hb, Sem.run_pure, StepOk]
    refine ⟨_, he, h.setObj hB hlt _ _ ⟨hB, ents.push { key := k, val := v, born := ents.size }, by simp [hlt], by simp [← hes], ?_⟩⟩
    intro j e hj
    rw [Array.getElem?_push] at hj
    split at hj
    · rename_i hje
      simp only [Option.some.injEq] at hj
      rw [← hj]; exact hje.symm
    · exact hborn j e hj
  · exact he.elim
theorem range_ok {t : TypeId} {x : Value} (h : Sat W0 w H) (he : eRange P t x H K) : StepOk P W0 K ((do pure (Next.value (← Instr.range t x)) : Sem Next).run P w) := by
  unfold eRange at he
  split at he
  case h_2 => exact he.elim
  rename_i kt et m hu
  split at he
  case h_3 => exact he.elim
  case h_2 ck es hr =>
    obtain ⟨hB, ⟨ents, hb, hes⟩, _, _⟩ := h.mapG hr
    have hk := he w.heap.size h.fresh
    have hn := h.new (.mapIter (some m) ck #[] ck) (.iter m ck [] ck) ⟨h.below.size, (Go.MapKept.heap_alloc w _).1⟩
    simp only [Instr.range, Sem.run_bind, run_underlying (und_map hu), Result.andThen_ok, getMap_run hb, run_newObj, Sem.run_pure, StepOk]
    exact ⟨_, hk, hn⟩
  rename_i es hr
  obtain ⟨hB, ents, hb, hes, hborn⟩ := h.map hr
  have hlen : ents.size = es.length := by rw [← hes]; simp
  have hk := he w.heap.size h.fresh
  have hn := h.new (.mapIter (some m) ents.size #[] ents.size) (.iter m es.length [] es.length) ⟨h.below.size, by rw [hlen]; exact (Go.MapKept.heap_alloc w _).1⟩
  simp only [Instr.range, Sem.run_bind, run_underlying (und_map hu), Result.andThen_ok, getMap_run hb, run_newObj, Sem.run_pure, StepOk]
  exact ⟨_, hk, hn⟩
theorem entry_ok {it v : Value} (h : Sat W0 w H) (hq : qEntry it H = some v) : (Instr.entry it).run P w = .ok v w := by
  unfold qEntry at hq
  split at hq
  case h_2 => cases hq
  rename_i r
  split at hq
  case h_2 => cases hq
  rename_i m since seen last hr
  split at hq
  case h_3 => cases hq
  case h_2 ck es hm =>
    split at hq
    case isFalse => cases hq
    rename_i hlast
    obtain ⟨hB, ⟨ents, hb, hes⟩, hlts, hnd⟩ := h.mapG hm
    have hi : w.heap[r]? = some (.mapIter (some m) since seen.toArray last) := (show IterRep _ _ _ _ _ _ _ from h.rep r _ hr).is
    cases hg : seen.getLast? with
    | none => rw [hg] at hq; cases hq
    | some i =>
      rw [hg] at hq
      simp only [Option.bind_some] at hq
      have hback : seen.toArray.back? = some i := by simpa using hg
      rw [← hes, List.find?_map] at hq
      cases hf : ents.toList.find? ((fun x => x.1 == i) ∘ fun e : MapEntry => (e.born, e.key, e.val)) with
      | none => rw [hf] at hq; cases hq
      | some me =>
        rw [hf] at hq
        have hfind : ents.find? (fun e => e.born == i) = some me := by
          rw [← Array.find?_toList]; exact hf
        have hcl : (ck != last) = false := by simp [hlast]
        simp only [Option.map_some, Option.some.injEq] at hq
        simp only [Instr.entry, Sem.run_bind, Result.andThen_ok, getIter_run hi, getMap_run hb, hback, hfind, Sem.run_pure]
        simp [hcl, hq, Result.andThen]
  rename_i es hm
  split at hq
  case isFalse => cases hq
  rename_i hlast
  obtain ⟨hB, ents, hb, hes, hborn⟩ := h.map hm
  have hi : w.heap[r]? = some (.mapIter (some m) since seen.toArray last) := (show IterRep _ _ _ _ _ _ _ from h.rep r _ hr).is
  have hlen : ents.size = es.length := by rw [← hes]; simp
  cases hg : seen.getLast? with
  | none => rw [hg] at hq; cases hq
  | some i =>
    rw [hg] at hq
    simp only [Option.bind_some] at hq
    cases hei : es[i]? with
    | none => rw [hei] at hq; cases hq
    | some e =>
      rw [hei] at hq
      simp only [Option.map_some, Option.some.injEq] at hq
      rw [← hes, List.getElem?_map] at hei
      cases hge : ents.toList[i]? with
      | none => rw [hge] at hei; cases hei
      | some me =>
        rw [hge] at hei
        simp only [Option.map_some, Option.some.injEq] at hei
        subst hei
        have hback : seen.toArray.back? = some i := by simpa using hg
        have hge2 : ents[i]? = some me := by rw [← Array.getElem?_toList]; exact hge
        have hfind : ents.find? (fun e => e.born == i) = some me := by
          have hil := (Array.getElem?_eq_some_iff.1 hge2).1
          rw [Array.find?_eq_some_iff_getElem]
          refine ⟨by simpa using hborn i me hge2, i, hil, (Array.getElem?_eq_some_iff.1 hge2).2, fun j hj => ?_⟩
          have := hborn j ents[j] (Array.getElem?_eq_getElem (by omega))
          simp [this]; omega
        simp only [Instr.entry, Sem.run_bind, Result.andThen_ok, getIter_run hi, getMap_run hb, hback, hfind, Sem.run_pure]
        have hcl : (ents.size != last) = false := by simp [hlen, hlast]
        simp [hcl, hq, Result.andThen]
theorem nextG_ok {t : TypeId} {r m since last ck : Nat} {seen : List Nat} {es : List (Nat × Value × Value)} (h : Sat W0 w H) (hr : H r = some (.iter m since seen last)) (hm : H m = some (.mapG ck es))
    (he : (es.map (·.1)).Nodup → (since = ck ∧ last = ck) ∧ ((∀ e ∈ es, e.1 ∈ seen) → K (.tuple #[.bool false]) H) ∧ ∀ e ∈ es, e.1 ∉ seen → K (.tuple #[.bool true, e.2.1, e.2.2]) (upd H r (.iter m since (seen ++ [e.1]) last))) :
    StepOk P W0 K ((do pure (Next.value (← Instr.next (.pointer (some ⟨r, 0, none⟩)) false t)) : Sem Next).run P w) := by
  obtain ⟨hB, ⟨ents, hb, hes⟩, hlts, hnd⟩ := h.mapG hm
  obtain ⟨⟨hsince, hlast⟩, hover, hstep⟩ := he hnd
  have hir : IterRep _ _ _ _ _ _ _ := h.rep r _ hr
  have hi := hir.is
  have hrlt : r < w.heap.size := (Array.getElem?_eq_some_iff.1 hi).1
  have hin : ∀ e ∈ ents, (e.born, e.key, e.val) ∈ es := fun e he => by
    rw [← hes]; exact List.mem_map_of_mem (f := fun e : MapEntry => (e.born, e.key, e.val)) (Array.mem_toList_iff.2 he)
  have hborn2 : ∀ e ∈ ents, e.born < since := fun e he => by
    have := hlts _ (hin e he)
    simp only at this; omega
  have hc1 : (!seen.toArray.isEmpty && !ents.isEmpty && ents.all (fun x => decide (x.born ≥ last))) = false := by
    cases hz : ents.isEmpty with
    | true => simp
    | false =>
      have h0 : 0 < ents.size := by
        rcases Nat.eq_zero_or_pos ents.size with h0 | h0
        · rw [Array.isEmpty, h0] at hz; simp at hz
        · exact h0
      have hb0 := hborn2 ents[0] (Array.getElem_mem h0)
      have : ents.all (fun x => decide (x.born ≥ last)) = false := by
        rw [Array.all_eq_false]
        exact ⟨0, h0, by simp; omega⟩
      simp [this]
  obtain ⟨lft, hlft⟩ : ∃ lft, ents.filter (fun e => !seen.toArray.contains e.born) = lft := ⟨_, rfl⟩
  have hold : lft.filter (fun e => decide (e.born < since)) = lft := by
    rw [Array.filter_eq_self]
    intro e he
    rw [← hlft] at he
    simpa using hborn2 e (Array.mem_filter.1 he).1
  have hnew : lft.filter (fun e => decide (e.born ≥ since)) = #[] := by
    rw [Array.filter_eq_empty_iff]
    intro e he
    rw [← hlft] at he
    have := hborn2 e (Array.mem_filter.1 he).1
    simp; omega
  simp only [Instr.next, Sem.run_bind, Result.andThen_ok, getIter_run hi, getMap_run hb, hc1, Bool.false_eq_true, if_false, hlft, hold, hnew, Array.append_empty]
  cases hz : lft.isEmpty with
  | true =>
    have hl0 : lft = #[] := by simpa using hz
    subst hl0
    have hall : ∀ e ∈ es, e.1 ∈ seen := fun e hx => by
      rw [← hes] at hx
      obtain ⟨me, hme, rfl⟩ := List.mem_map.1 hx
      rw [Array.filter_eq_empty_iff] at hlft
      have := hlft me (Array.mem_toList_iff.1 hme)
      simpa using this
    have hk := hover hall
    simp [run_choose, Question.forced, StepOk, Result.andThen]
    exact ⟨_, hk, h⟩
  | false =>
    have hpos : 0 < lft.size := by
      rcases Nat.eq_zero_or_pos lft.size with h0 | h0
      · rw [Array.isEmpty, h0] at hz; simp at hz
      · exact h0
    have step : ∀ (a : Nat) (w' : World), a < lft.size → Sat W0 w' H → w'.heap = w.heap → StepOk P W0 K
        ((Sem.run P
            (match (Array.map some lft)[a]? with
            | some (some e) => do
              setObj r (Obj.mapIter (some m) since (seen.toArray.push e.born) ck)
              pure (Value.tuple #[Value.bool true, e.key, e.val])
            | some none => pure (Value.tuple #[Value.bool false])
            | none => stuck "Next: no such candidate")
            w').andThen
          fun a w' => Sem.run P (pure (Next.value a)) w') := fun a w' ha hs hw => by
      have hga : (Array.map some lft)[a]? = some (some lft[a]) := by simp [ha]
      rw [hga]
      have hmem : lft[a] ∈ ents.filter (fun e => !seen.toArray.contains e.born) := by rw [hlft]; exact Array.getElem_mem ha
      obtain ⟨hin2, hns⟩ := Array.mem_filter.1 hmem
      have hns2 : lft[a].born ∉ seen := by simpa using hns
      have hk := hstep _ (hin _ hin2) hns2
      have hi' : w'.heap[r]? = some (.mapIter (some m) since seen.toArray last) := by rw [hw]; exact hi
      have hr' : r < w'.heap.size := by rw [hw]; exact hrlt
      simp only [Sem.run_bind, setIter_run hi', Result.andThen_ok, Sem.run_pure, StepOk]
      exact ⟨_, hk, hs.setObj hir.le hr' _ _ ⟨hir.le, by simp [hr', hlast]⟩⟩
    simp only [Bool.false_eq_true, if_false, Array.empty_append]
    rw [run_choose]
    by_cases hf : (Question.mapNext (Array.map some lft).size).forced = true
    · rw [if_pos hf]
      exact step 0 w hpos h rfl
    · rw [if_neg hf]
      refine step _ _ ?_ (h.drawn _) rfl
      simp only [Question.cut, Array.size_map]
      exact Nat.mod_lt _ hpos
theorem delete_ok2 {t t1 ty : TypeId} {x k : Value} (h : Sat W0 w H) (he : eDelete P t x k H K) : StepOk P W0 K ((do pure (Next.value (← Builtin.delete_ #[t, t1] ty #[x, k])) : Sem Next).run P w) := by
  unfold eDelete at he
  split at he
  case h_2 => exact he.elim
  rename_i kt et r hu
  split at he
  case h_2 => exact he.elim
  rename_i ck es hr
  obtain ⟨hk, he⟩ := he
  obtain ⟨hB, ⟨ents, hb, hes⟩, hlts, hnd⟩ := h.mapG hr
  have hkv := kv_of hes
  have hlt : r < w.heap.size := (Array.getElem?_eq_some_iff.1 hb).1
  have hc := checkKey_ok hk ents.isEmpty 9998 w
  split at he
  · rename_i i hf
    rw [← hkv] at hf
    have hfk := findKey_ok hk hf w
    obtain ⟨e', hei, hkey⟩ : ∃ e, ents.toList[i]? = some e ∧ keyEq P kt k e.key = some true := findM_some hf
    simp only [Option.bind_some, hei, Option.map_some] at hfk
    have hr2 : (Builtin.delete_ #[t, t1] ty #[.map (some r), k]).run P w = .ok (.tuple #[]) { w with heap := w.heap.setIfInBounds r (.map (ents.eraseIdxIfInBounds i) ck) } := by
      simp [Builtin.delete_, Sem.run_bind, run_underlying (und_map hu), Result.andThen_ok, getMap_run hb, hc, hfk, setMap_run hb]
    have her : (ents.eraseIdxIfInBounds i).toList.map (fun e => (e.born, e.key, e.val)) = es.eraseIdx i := by
      have hil : i < ents.size := by
        have := (List.getElem?_eq_some_iff.1 hei).1
        simpa using this
      rw [← hes, Array.eraseIdxIfInBounds, dif_pos hil, Array.toList_eraseIdx, List.eraseIdx_eq_take_drop_succ, List.eraseIdx_eq_take_drop_succ, List.map_append, List.map_take, List.map_drop]
    simp only [Sem.run_bind, hr2, Result.andThen_ok, Sem.run_pure, StepOk]
    refine ⟨_, he, h.setObj hB hlt _ _ ⟨hB, ⟨_, by simp [hlt], her⟩, fun e hx => hlts e (List.mem_of_mem_eraseIdx hx), ?_⟩⟩
    exact (List.Sublist.map _ (List.eraseIdx_sublist es i)).nodup hnd
  · rename_i hf
    rw [← hkv] at hf
    have hfk := findKey_ok hk hf w
    simp only [Option.bind_none] at hfk
    have hset : w.heap.setIfInBounds r (.map ents ck) = w.heap := by
      apply Array.ext_getElem?
      intro i
      rw [Array.getElem?_setIfInBounds]
      by_cases hi : r = i
      · subst hi
        rw [if_pos rfl, if_pos hlt, hb]
      · simp [hi]
    have hr2 : (Builtin.delete_ #[t, t1] ty #[.map (some r), k]).run P w = .ok (.tuple #[]) w := by
      simp [Builtin.delete_, Sem.run_bind, run_underlying (und_map hu), Result.andThen_ok, getMap_run hb, hc, hfk, setMap_run hb, hset]
    simp only [Sem.run_bind, hr2, Result.andThen_ok, Sem.run_pure, StepOk]
    exact ⟨_, he, h⟩
  · exact he.elim
theorem next_ok {t : TypeId} {it : Value} (h : Sat W0 w H) (he : eNext it H K) : StepOk P W0 K ((do pure (Next.value (← Instr.next it false t)) : Sem Next).run P w) := by
  unfold eNext at he
  split at he
  case h_2 => exact he.elim
  rename_i r
  split at he
  case h_2 => exact he.elim
  rename_i m since seen last hr
  split at he
  case h_3 => exact he.elim
  case h_2 ck es hm => exact nextG_ok h hr hm he
  rename_i es hm
  obtain ⟨⟨hsince, hlast⟩, hover, hstep⟩ := he
  obtain ⟨hB, ents, hb, hes, hborn⟩ := h.map hm
  have hir : IterRep _ _ _ _ _ _ _ := h.rep r _ hr
  have hi := hir.is
  have hrlt : r < w.heap.size := (Array.getElem?_eq_some_iff.1 hi).1
  have hlen : ents.size = es.length := by rw [← hes]; simp
  have hc1 : (!seen.toArray.isEmpty && !ents.isEmpty && ents.all (fun x => decide (x.born ≥ last))) = false := by
    cases hz : ents.isEmpty with
    | true => simp
    | false =>
      have h0 : 0 < ents.size := by
        rcases Nat.eq_zero_or_pos ents.size with h0 | h0
        · rw [Array.isEmpty, h0] at hz; simp at hz
        · exact h0
      have hb0 := hborn 0 ents[0] (Array.getElem?_eq_getElem h0)
      have : ents.all (fun x => decide (x.born ≥ last)) = false := by
        rw [Array.all_eq_false]
        exact ⟨0, h0, by simp [hb0]; omega⟩
      simp [this]
  have hborn2 : ∀ e ∈ ents, e.born < since := fun e he => by
    obtain ⟨i, hi1, hi2⟩ := Array.mem_iff_getElem.1 he
    have := hborn i e (by rw [Array.getElem?_eq_getElem hi1, hi2])
    omega
  obtain ⟨lft, hlft⟩ : ∃ lft, ents.filter (fun e => !seen.toArray.contains e.born) = lft := ⟨_, rfl⟩
  have hold : lft.filter (fun e => decide (e.born < since)) = lft := by
    rw [Array.filter_eq_self]
    intro e he
    rw [← hlft] at he
    simpa using hborn2 e (Array.mem_filter.1 he).1
  have hnew : lft.filter (fun e => decide (e.born ≥ since)) = #[] := by
    rw [Array.filter_eq_empty_iff]
    intro e he
    rw [← hlft] at he
    have := hborn2 e (Array.mem_filter.1 he).1
    simp; omega
  simp only [Instr.next, Sem.run_bind, Result.andThen_ok, getIter_run hi, getMap_run hb, hc1, Bool.false_eq_true, if_false, hlft, hold, hnew, Array.append_empty]
  cases hz : lft.isEmpty with
  | true =>
    have hl0 : lft = #[] := by simpa using hz
    subst hl0
    have hall : ∀ i, i < es.length → i ∈ seen := fun i hlt => by
      have hi1 : i < ents.size := by omega
      have hb1 := hborn i ents[i] (Array.getElem?_eq_getElem hi1)
      rw [Array.filter_eq_empty_iff] at hlft
      have := hlft ents[i] (Array.getElem_mem hi1)
      rw [hb1] at this
      simpa using this
    have hk := hover hall
    simp [run_choose, Question.forced, StepOk, Result.andThen]
    exact ⟨_, hk, h⟩
  | false =>
    have hpos : 0 < lft.size := by
      rcases Nat.eq_zero_or_pos lft.size with h0 | h0
      · rw [Array.isEmpty, h0] at hz; simp at hz
      · exact h0
    have step : ∀ (a : Nat) (w' : World), a < lft.size → Sat W0 w' H → w'.heap = w.heap → StepOk P W0 K
        ((Sem.run P
            (match (Array.map some lft)[a]? with
            | some (some e) => do
              setObj r (Obj.mapIter (some m) since (seen.toArray.push e.born) ents.size)
              pure (Value.tuple #[Value.bool true, e.key, e.val])
            | some none => pure (Value.tuple #[Value.bool false])
            | none => stuck "Next: no such candidate")
            w').andThen
          fun a w' => Sem.run P (pure (Next.value a)) w') := fun a w' ha hs hw => by
      have hga : (Array.map some lft)[a]? = some (some lft[a]) := by simp [ha]
      rw [hga]
      have hmem : lft[a] ∈ ents.filter (fun e => !seen.toArray.contains e.born) := by rw [hlft]; exact Array.getElem_mem ha
      obtain ⟨hin, hns⟩ := Array.mem_filter.1 hmem
      obtain ⟨i, hi1, hi2⟩ := Array.mem_iff_getElem.1 hin
      have hge : ents[i]? = some lft[a] := by rw [Array.getElem?_eq_getElem hi1, hi2]
      have hbi := hborn i _ hge
      rw [hbi] at hns
      simp only
      rw [hbi]
      have hns2 : i ∉ seen := by simpa using hns
      have hei : es[i]? = some (lft[a].key, lft[a].val) := by
        rw [← hes, List.getElem?_map]
        have : ents.toList[i]? = some lft[a] := by rw [Array.getElem?_toList]; exact hge
        rw [this]; rfl
      have hk := hstep i _ hns2 hei
      have hi' : w'.heap[r]? = some (.mapIter (some m) since seen.toArray last) := by rw [hw]; exact hi
      have hr' : r < w'.heap.size := by rw [hw]; exact hrlt
      simp only [Sem.run_bind, setIter_run hi', Result.andThen_ok, Sem.run_pure, StepOk]
      exact ⟨_, hk, hs.setObj hir.le hr' _ _ ⟨hir.le, by simp [hr', hlen, hlast]⟩⟩
    simp only [Bool.false_eq_true, if_false, Array.empty_append]
    rw [run_choose]
    by_cases hf : (Question.mapNext (Array.map some lft).size).forced = true
    · rw [if_pos hf]
      exact step 0 w hpos h rfl
    · rw [if_neg hf]
      refine step _ _ ?_ (h.drawn _) rfl
      simp only [Question.cut, Array.size_map]
      exact Nat.mod_lt _ hpos
end
end Go.Proofs.YtfpighmafofoeaaDoor.GL
