/- Layer 17: the search: what was found is noted. -/
import Derived.Test.YtiaigpkaajnpoaaMxB
import Derived.Test.YtiaigpkaajnpoaaGlU
namespace Go.Proofs.Ytiaigpkaajnpoaa.GL
open Go Go.RowKit
set_option maxRecDepth 10000
set_option pp.deepTerms.threshold 8
set_option pp.maxSteps 3000
set_option linter.unusedSimpArgs false
set_option linter.unusedVariables false

def nI (k : Nat) : Value := .int .i64 (k : Int)
theorem nI_def (k : Nat) : nI k = .int .i64 (k : Int) := Eq.trans rfl rfl
def notesL (x : List Nat) : Value := .agg (x.map nI).toArray
theorem nI_inj {a b : Nat} : nI a = nI b ↔ a = b := by
  unfold nI; simp; omega
theorem eqC_nI : ∀ (x y : List Nat), x.length = y.length → eqCells (List.replicate x.length .int) (x.map nI) (y.map nI) = some (decide (x = y))
  | [], [], _ => by simp [eqC_nil]
  | [], _ :: _, h => by simp at h
  | _ :: _, [], h => by simp at h
  | a :: x, b :: y, h => by
    have ih := eqC_nI x y (by simpa using h)
    rw [List.length_cons, List.replicate_succ, List.map_cons, List.map_cons]
    unfold nI at ih ⊢
    rw [eqC_int, ih]
    simp
    by_cases e : a = b
    · simp [e]
    · have e2 : ¬ (a : Int) = (b : Int) := by omega
      simp [e, e2]
theorem keyN (x y : List Nat) (hx : x.length = 4) (hy : y.length = 4) : keyEq Try.prog 26 (notesL x) (notesL y) = some (decide (x = y)) := by
  have hu : und Try.prog 26 = .arr 4 3 := by simp [facts]
  have hk : kinds Try.prog 26 = some [.int, .int, .int, .int] := by simp [facts]
  have he := eqC_nI x y (by omega)
  rw [hx] at he
  unfold keyEq notesL
  rw [hu]
  simp only
  unfold qEq
  rw [hk]
  exact he
theorem okN (x : List Nat) (hx : x.length = 4) : keyOk Try.prog 26 (notesL x) = true := by
  have hu : und Try.prog 26 = .arr 4 3 := by simp [facts]
  have h1 : tk Try.prog 3 = some (false, 1) := by simp [facts]
  have h2 : und Try.prog 3 = .int .i64 := by simp [facts]
  unfold keyOk notesL
  rw [hu]
  simp only [h1, h2]
  simp [hx]
  intro k _
  rfl
def entN (x : List Nat) : Value × Value := (notesL x, .bool true)
theorem findN (x : List Nat) (hx : x.length = 4) : ∀ (f : List (List Nat)), (∀ y ∈ f, y.length = 4) → ∃ o : Option Nat, findM Try.prog 26 (notesL x) (f.map entN) = some o ∧ (match o with | some i => f[i]? = some x | none => x ∉ f)
  | [], _ => ⟨none, rfl, by simp⟩
  | y :: f, hf => by
    have hk := keyN x y hx (hf y (by simp))
    obtain ⟨o, ho, hp⟩ := findN x hx f fun z hz => hf z (by simp [hz])
    simp only [List.map_cons, findM, entN, hk]
    by_cases e : x = y
    · simp only [e, decide_true]
      exact ⟨some 0, rfl, by simp⟩
    · simp only [e, decide_false]
      have ho' : findM Try.prog 26 (notesL x) (f.map fun x => (notesL x, Value.bool true)) = some o := ho
      unfold entN
      rw [ho']
      refine ⟨o.map (· + 1), rfl, ?_⟩
      cases o with
      | none => simp only [Option.map_none]; simp [e]; exact hp
      | some i => simpa using hp
theorem setFound {G : Heap} {K : Kont} {q ck : Nat} {es : List (Nat × Value × Value)} {f : List (List Nat)} {x : List Nat} (hq : G q = some (.mapG ck es)) (he : es.map (·.2) = f.map entN) (hx : x.length = 4) (hf : ∀ y ∈ f, y.length = 4)
    (hK : ∀ ck' es', es'.map (·.2) = (if x ∈ f then f else f ++ [x]).map entN → K undef (upd G q (.mapG ck' es'))) : eMapSet Try.prog 52 (.map (some q)) (notesL x) (.bool true) G K := by
  have hu : und Try.prog 52 = .map 26 4 := by simp [facts]
  obtain ⟨o, ho, hp⟩ := findN x hx f hf
  unfold eMapSet
  rw [hu]
  simp only [hq]
  refine ⟨okN x hx, ?_⟩
  rw [he, ho]
  cases o with
  | none =>
    simp only at hp
    refine hK _ _ ?_
    rw [if_neg hp, List.map_append, he, List.map_append]
    rfl
  | some i =>
    simp only at hp
    refine hK _ _ ?_
    rw [if_pos (List.mem_of_getElem? hp), ← he]
    unfold setG
    apply List.ext_getElem?
    intro j
    rw [List.getElem?_map, List.getElem?_modify, List.getElem?_map]
    by_cases hij : i = j
    · subst hij
      have h1 : (es.map (·.2))[i]? = some (entN x) := by rw [he, List.getElem?_map, hp]; rfl
      rw [List.getElem?_map] at h1
      cases hg : es[i]? with
      | none => simp
      | some e =>
        rw [hg] at h1
        simp only [Option.map_some, Option.some.injEq] at h1
        simp [h1, entN]
    · simp [hij]
theorem clearG {P : Program} {G : Heap} {K : Kont} {t k e : TypeId} {q ck : Nat} {es : List (Nat × Value × Value)} (hu : und P t = .map k e) (hq : G q = some (.mapG ck es)) (hK : K (.tuple #[]) (upd G q (.mapG ck []))) : eClear P t (.map (some q)) G K := by
  unfold eClear
  rw [hu]
  simp only [hq]
  exact hK
structure SrD (ms ws ds : List Nat) : Prop where
  lm : ms.length = 4
  lw : ws.length = 4
  ld : ds.length = 5
  bm : ∀ i, ms.getD i 0 ≤ 10000
  bw : ∀ i, ws.getD i 0 ≤ 100000
  bd : ∀ i, ds.getD i 0 ≤ 100000
  dear : ∀ i j, i ≤ j → j < 4 → ws.getD j 0 ≤ ds.getD i 0
def srC (ms ws ds : List Nat) (c q : Nat) : List Value := ms.map nI ++ (ws.map nI ++ (ds.map nI ++ [.int .i64 (c : Int), .map (some q)]))
structure Sr (R : Heap) (p q : Nat) (ms ws ds : List Nat) (c : Nat) (f : List (List Nat)) : Prop where
  row : R p = some (.row true 0 (srC ms ws ds c q) 0)
  map : ∃ ck es, R q = some (.mapG ck es) ∧ es.map (·.2) = f.map entN
  ne : p ≠ q
theorem lit4 {x : List Nat} (h : x.length = 4) : ∃ a b c d, x = [a, b, c, d] := by
  match x, h with
  | [a, b, c, d], _ => exact ⟨a, b, c, d, rfl⟩
theorem lit5 {x : List Nat} (h : x.length = 5) : ∃ a b c d e, x = [a, b, c, d, e] := by
  match x, h with
  | [a, b, c, d, e], _ => exact ⟨a, b, c, d, e, rfl⟩
section
variable {H R : Heap} {p q c : Nat} {ms ws ds : List Nat} {f : List (List Nat)}
theorem srC_at (hD : SrD ms ws ds) : (srC ms ws ds c q).length = 15 ∧ (∀ i, i < 4 → (srC ms ws ds c q)[i]? = some (.int .i64 (ms.getD i 0 : Nat))) ∧ (∀ i, i < 4 → (srC ms ws ds c q)[4 + i]? = some (.int .i64 (ws.getD i 0 : Nat))) ∧ (∀ i, i < 5 → (srC ms ws ds c q)[8 + i]? = some (.int .i64 (ds.getD i 0 : Nat))) ∧ (srC ms ws ds c q)[13]? = some (.int .i64 (c : Int)) ∧ (srC ms ws ds c q)[14]? = some (.map (some q)) := by
  obtain ⟨a0, a1, a2, a3, rfl⟩ := lit4 hD.lm
  obtain ⟨b0, b1, b2, b3, rfl⟩ := lit4 hD.lw
  obtain ⟨d0, d1, d2, d3, d4, rfl⟩ := lit5 hD.ld
  refine ⟨rfl, fun i hi => ?_, fun i hi => ?_, fun i hi => ?_, rfl, rfl⟩
  · have : i = 0 ∨ i = 1 ∨ i = 2 ∨ i = 3 := by omega
    rcases this with rfl | rfl | rfl | rfl <;> rfl
  · have : i = 0 ∨ i = 1 ∨ i = 2 ∨ i = 3 := by omega
    rcases this with rfl | rfl | rfl | rfl <;> rfl
  · have : i = 0 ∨ i = 1 ∨ i = 2 ∨ i = 3 ∨ i = 4 := by omega
    rcases this with rfl | rfl | rfl | rfl | rfl <;> rfl
theorem Sr.rd (h : Sr R p q ms ws ds c f) (hR : Heap.le R H) {i : Nat} {v : Value} (hv : (srC ms ws ds c q)[i]? = some v) : rd1U (H p) i = some v := by
  rw [hR _ _ h.row, rd1U_row (Nat.zero_le _), Nat.sub_zero]; exact hv
theorem srC_set (hD : SrD ms ws ds) (c' : Nat) : (srC ms ws ds c q).set 13 (.int .i64 (c' : Int)) = srC ms ws ds c' q := by
  obtain ⟨a0, a1, a2, a3, rfl⟩ := lit4 hD.lm
  obtain ⟨b0, b1, b2, b3, rfl⟩ := lit4 hD.lw
  obtain ⟨d0, d1, d2, d3, d4, rfl⟩ := lit5 hD.ld
  rfl
theorem Sr.setC (h : Sr R p q ms ws ds c f) (c' : Nat) : Sr (upd R p (.row true 0 (srC ms ws ds c' q) 0)) p q ms ws ds c' f := by
  obtain ⟨ck, es, h1, h2⟩ := h.map
  exact ⟨upd_same _ _ _, ⟨ck, es, by rw [upd_ne _ _ h.ne.symm]; exact h1, h2⟩, h.ne⟩
theorem Sr.setM (h : Sr R p q ms ws ds c f) {ck : Nat} {es : List (Nat × Value × Value)} {f' : List (List Nat)} (he : es.map (·.2) = f'.map entN) : Sr (upd R q (.mapG ck es)) p q ms ws ds c f' :=
  ⟨by rw [upd_ne _ _ h.ne]; exact h.row, ⟨ck, es, upd_same _ _ _, he⟩, h.ne⟩
set_option maxHeartbeats 1000000 in
theorem note_c (hD : SrD ms ws ds) (hR : Heap.le R H) (h : Sr R p q ms ws ds c f) (hf : ∀ y ∈ f, y.length = 4) (x : List Nat) (hx : x.length = 4) (hc : c ≤ 41) (hs : x.sum ≤ 1000) :
    ECalls Try.prog 25 #[.pointer (some ⟨p, 0, none⟩), notesL x, .int .i64 (x.sum : Nat)] H fun _ H' => ∃ R', Own H R H' R' ∧ Sr R' p q ms ws ds (noteP c f x).1 (noteP c f x).2 := by
  refine ecalls_of_ewp (args := [_, _, _]) Try.func25 rfl rfl rfl (by simp [Try.ntmps25]) (by kernel_rfl) ?_
  obtain ⟨hl15, _, _, _, s13, s14⟩ := srC_at (c := c) (q := q) hD
  have g13 := h.rd hR s13
  have g14 := h.rd hR s14
  have hrow := hR _ _ h.row
  have hset := srC_set (c := c) (q := q) hD x.sum
  have hxl : (x.map nI).length = 4 := by simp [hx]
  have htk : List.take 4 (x.map nI) = x.map nI := List.take_of_length_le (by simp [hx])
  unfold notesL
  simp (disch := first | omega | assumption | decide | (simp <;> omega) | fail) [facts, ]
  refine fresh_intro fun b hb => ?_
  have hbp : p ≠ b := fun e => by subst e; rw [hrow] at hb; cases hb
  have hbq : q ≠ b := fun e => by
    subst e
    obtain ⟨ck, es, h1, _⟩ := h.map
    rw [hR _ _ h1] at hb; cases hb
  have own1 : Own H R (upd H b (.row true 0 (x.map nI) 0)) R := (Own.refl hR).grow (le_upd _ hb)
  have rb := upd_same H b (.row true 0 (x.map nI) 0)
  have hRb : R b = none := le_of_none hR hb
  replace g13 : rd1U (upd H b (.row true 0 (x.map nI) 0) p) 13 = some (.int .i64 (c : Int)) := by rw [upd_ne _ _ hbp]; exact g13
  replace g14 : rd1U (upd H b (.row true 0 (x.map nI) 0) p) 14 = some (.map (some q)) := by rw [upd_ne _ _ hbp]; exact g14
  replace hrow : upd H b (.row true 0 (x.map nI) 0) p = _ := (upd_ne _ _ hbp).trans hrow
  generalize upd H b (.row true 0 (x.map nI) 0) = H1 at *
  obtain ⟨_, s13e⟩ := List.getElem?_eq_some_iff.1 s13
  obtain ⟨_, s14e⟩ := List.getElem?_eq_some_iff.1 s14
  obtain ⟨ck, es, hq1, he1⟩ := h.map
  have hpR : R p ≠ none := fun e => by rw [h.row] at e; cases e
  by_cases h1 : x.sum < c
  · have h1I : (x.sum : Int) < (c : Int) := by omega
    have own2 := own1.set h.row (.row true 0 (srC ms ws ds x.sum q) 0)
    have h2 := h.setC x.sum
    obtain ⟨hl15', _, _, _, t13, t14⟩ := srC_at (c := x.sum) (q := q) hD
    obtain ⟨_, t13e⟩ := List.getElem?_eq_some_iff.1 t13
    obtain ⟨_, t14e⟩ := List.getElem?_eq_some_iff.1 t14
    have hqs : upd H1 p (.row true 0 (srC ms ws ds x.sum q) 0) q = some (.mapG ck es) := (upd_ne _ _ h.ne.symm).trans (own1.le _ _ hq1)
    have rbs : upd H1 p (.row true 0 (srC ms ws ds x.sum q) 0) b = some (.row true 0 (x.map nI) 0) := (upd_ne _ _ hbp.symm).trans rb
    simp (disch := first | omega | assumption | decide | (simp <;> omega) | fail) [facts, hrow, s13, s13e, s14, s14e, hset, h1I, t13, t13e, t14, t14e]
    refine clearG (k := 26) (e := 4) (by simp [facts]) hqs ?_
    have own3 := own2.set (p := q) (o0 := .mapG ck es) (by rw [upd_ne _ _ h.ne.symm]; exact hq1) (.mapG ck [])
    have h3 := h2.setM (ck := ck) (es := []) (f' := []) rfl
    have hp3 := own3.le _ _ h3.row
    have hq3 : upd (upd H1 p (.row true 0 (srC ms ws ds x.sum q) 0)) q (.mapG ck []) q = some (.mapG ck []) := upd_same _ _ _
    have rb3 : upd (upd H1 p (.row true 0 (srC ms ws ds x.sum q) 0)) q (.mapG ck []) b = some (.row true 0 (x.map nI) 0) := (upd_ne _ _ hbq.symm).trans rbs
    generalize upd (upd H1 p (.row true 0 (srC ms ws ds x.sum q) 0)) q (.mapG ck []) = H3 at *
    simp (disch := first | omega | assumption | decide | (simp <;> omega) | fail) [facts, hp3, t13, t13e]
    refine w_plan (by simp [facts]) (opsP [0,1,2,3,4,5] .done) (by decide +kernel) ?_
    simp (disch := first | omega | assumption | decide | (simp <;> omega) | fail) [facts, hp3, t14, t14e, rb3, htk]
    refine setFound (x := x) (f := []) hq3 rfl hx (fun y hy => by cases hy) ?_
    intro ck' es' he'
    simp (disch := first | omega | assumption | decide | (simp <;> omega) | fail) [facts, ]
    have hR3 := own3.set (p := q) (o0 := .mapG ck []) (upd_same _ _ _) (.mapG ck' es')
    refine ⟨_, Heap.le_refl _, _, hR3, ?_⟩
    unfold noteP
    rw [if_pos h1]
    exact h3.setM (by simpa using he')
  have h1I : ¬ (x.sum : Int) < (c : Int) := by omega
  by_cases h2 : x.sum = c
  · have h2I : (x.sum : Int) = (c : Int) := by omega
    simp (disch := first | omega | assumption | decide | (simp <;> omega) | fail) [facts, hrow, s13, s13e, h1I, h2I]
    refine w_plan (by simp [facts]) (opsP [0,1,2,3,4,5] .done) (by decide +kernel) ?_
    simp (disch := first | omega | assumption | decide | (simp <;> omega) | fail) [facts, hrow, s14, s14e, rb, htk]
    refine setFound (x := x) (f := f) (own1.le _ _ hq1) he1 hx hf ?_
    intro ck' es' he'
    simp (disch := first | omega | assumption | decide | (simp <;> omega) | fail) [facts, ]
    refine ⟨_, Heap.le_refl _, _, own1.set hq1 (.mapG ck' es'), ?_⟩
    unfold noteP
    rw [if_neg h1, if_pos h2]
    exact h.setM he'
  · have h2I : ¬ (x.sum : Int) = (c : Int) := by omega
    simp (disch := first | omega | assumption | decide | (simp <;> omega) | fail) [facts, hrow, s13, s13e, h1I, h2I]
    refine ⟨_, Heap.le_refl _, R, own1, ?_⟩
    unfold noteP
    rw [if_neg h1, if_neg h2]
    exact h
end
end Go.Proofs.Ytiaigpkaajnpoaa.GL
