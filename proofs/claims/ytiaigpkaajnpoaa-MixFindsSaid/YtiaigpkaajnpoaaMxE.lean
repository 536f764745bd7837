/- Layer 17: the best of those that were found. -/
import Derived.Test.YtiaigpkaajnpoaaMxD
namespace Go.Proofs.Ytiaigpkaajnpoaa.GL
open Go Go.RowKit
set_option maxRecDepth 10000
set_option pp.deepTerms.threshold 8
set_option pp.maxSteps 3000
set_option linter.unusedSimpArgs false
set_option linter.unusedVariables false

theorem nI_one (x : List Nat) : (x.map nI).all (·.oneCell') = true := List.all_eq_true.2 fun v hv => by
  obtain ⟨k, _, rfl⟩ := List.mem_map.1 hv
  rfl
theorem lex_step {a b : List Nat} {k : Nat} (ha : k < a.length) (hb : k < b.length) : lexGt (a.drop k) (b.drop k) = if a[k] = b[k] then lexGt (a.drop (k + 1)) (b.drop (k + 1)) else decide (b[k] < a[k]) := by
  rw [List.drop_eq_getElem_cons ha, List.drop_eq_getElem_cons hb]; rfl
def moreInv (H : Heap) (a b : List Nat) (b3 : Nat) (st : St) : Prop :=
  ∃ k : Nat, k ≤ 4 ∧ st.env 3 = .pointer (some ⟨b3, 0, none⟩) ∧ st.env 7 = .agg (a.map nI).toArray ∧ st.env 8 = .int .i64 k ∧ Heap.le H st.heap ∧ st.heap b3 = some (.row true 0 (b.map nI) 0) ∧ lexGt a b = lexGt (a.drop k) (b.drop k)
theorem more_c (a b : List Nat) (ha : a.length = 4) (hb : b.length = 4) (H : Heap) : ECalls Try.prog 26 #[notesL a, notesL b] H fun v H' => v = .bool (lexGt a b) ∧ Heap.le H H' := by
  refine ecalls_of_ewp (args := [_, _]) Try.func26 rfl rfl rfl (by simp [Try.ntmps26]) (by kernel_rfl) ?_
  have hal : (a.map nI).length = 4 := by simp [ha]
  have hbl : (b.map nI).length = 4 := by simp [hb]
  have htk : List.take 4 (a.map nI) = a.map nI := List.take_of_length_le (by simp [ha])
  unfold notesL
  simp (disch := first | omega | assumption | decide | (simp <;> omega) | fail) [facts, ]
  refine fresh_intro fun b2 hb2 => ?_
  have hl2 := le_upd (.row true 0 (a.map nI) 0) hb2
  have r2 := upd_same H b2 (.row true 0 (a.map nI) 0)
  generalize upd H b2 (.row true 0 (a.map nI) 0) = H2 at *
  simp (disch := first | omega | assumption | decide | (simp <;> omega) | fail) [facts, ]
  refine fresh_intro fun b3 hb3 => ?_
  have hl3 := le_upd (.row true 0 (b.map nI) 0) hb3
  have r3 := upd_same H2 b3 (.row true 0 (b.map nI) 0)
  have r2' := hl3 _ _ r2
  generalize upd H2 b3 (.row true 0 (b.map nI) 0) = H3 at *
  simp (disch := first | omega | assumption | decide | (simp <;> omega) | fail) [facts, r2', htk]
  refine w_loop (moreInv H3 a b b3) (fun st => 4 - (intOf (st.env 8)).toNat) ?_ ?_
  · exact ⟨0, by decide, by simp, by simp, by simp, Heap.le_refl _, r3, by simp⟩
  rintro ⟨env, G⟩ ⟨k, hk, e3, e7, e8, hle, r3', hlex⟩
  simp only at e3 e7 e8 hle r3'
  have hl0 := Heap.le_trans hl2 (Heap.le_trans hl3 hle)
  by_cases hlt : k < 4
  · have hltI : (k : Int) < 4 := by omega
    have hst := lex_step (a := a) (b := b) (k := k) (by omega) (by omega)
    have ga : (a.map nI)[k]? = some (nI (a[k]'(by omega))) := by rw [List.getElem?_map, List.getElem?_eq_getElem]; rfl
    have gb : (b.map nI)[k]? = some (nI (b[k]'(by omega))) := by rw [List.getElem?_map, List.getElem?_eq_getElem]; rfl
    generalize a[k]'(by omega) = x at *
    generalize b[k]'(by omega) = y at *
    rw [nI_def] at ga gb
    obtain ⟨_, gae⟩ := List.getElem?_eq_some_iff.1 ga
    obtain ⟨_, gbe⟩ := List.getElem?_eq_some_iff.1 gb
    by_cases e : x = y
    · have eI : (x : Int) = (y : Int) := by omega
      rw [if_pos e] at hst
      simp (disch := first | omega | assumption | decide | (simp <;> omega) | fail) [facts, e3, e7, e8, hltI, ga, gae, gb, gbe, r3', eI]
      exact ⟨_, Heap.le_refl _, ⟨k + 1, by omega, by simp [e3], by simp [e7], by simp, hle, r3', by rw [hlex, hst]⟩, by simp [intOf, e8]; omega⟩
    · have eI : ¬ (x : Int) = (y : Int) := by omega
      rw [if_neg e] at hst
      rw [hlex, hst]
      simp (disch := first | omega | assumption | decide | (simp <;> omega) | fail) [facts, e3, e7, e8, hltI, ga, gae, gb, gbe, r3', eI]
      exact ⟨_, Heap.le_refl _, hl0⟩
  · have hk4 : k = 4 := by omega
    subst hk4
    have hf : lexGt a b = false := by rw [hlex, List.drop_of_length_le (by omega), List.drop_of_length_le (by omega)]; rfl
    rw [hf]
    simp (disch := first | omega | assumption | decide | (simp <;> omega) | fail) [facts, e3, e7, e8]
    exact ⟨_, Heap.le_refl _, hl0⟩
theorem filter_less {α : Type} {p q : α → Bool} {x : α} : ∀ {l : List α}, x ∈ l → p x = true → q x = false → (∀ y, q y = true → p y = true) → (l.filter q).length < (l.filter p).length
  | [], h, _, _, _ => by cases h
  | y :: l, h, hp, hq, hqp => by
    have hle : (l.filter q).length ≤ (l.filter p).length := by
      rw [← List.countP_eq_length_filter, ← List.countP_eq_length_filter]
      exact List.countP_mono_left fun z _ hz => hqp z hz
    rcases List.mem_cons.1 h with rfl | h
    · rw [List.filter_cons_of_pos hp, List.filter_cons_of_neg (by simp [hq])]
      simp only [List.length_cons]; omega
    · have ih := filter_less h hp hq hqp
      by_cases h1 : q y = true
      · rw [List.filter_cons_of_pos h1, List.filter_cons_of_pos (hqp y h1)]
        simp only [List.length_cons]; omega
      · rw [List.filter_cons_of_neg h1]
        by_cases h2 : p y = true
        · rw [List.filter_cons_of_pos h2]; simp only [List.length_cons]; omega
        · rw [List.filter_cons_of_neg h2]; exact ih
def restM (es : List (Nat × Value × Value)) (bi : Nat) (st : St) : Nat := match st.heap bi with | some (.iter _ _ seen _) => (es.filter fun e => !seen.contains e.1).length | _ => 0
def bestInv (H : Heap) (q ck : Nat) (es : List (Nat × Value × Value)) (f : List (List Nat)) (b2 b3 bi : Nat) (st : St) : Prop :=
  ∃ (seen : List Nat) (out : List Nat), st.env 2 = .pointer (some ⟨b2, 0, none⟩) ∧ st.env 3 = .pointer (some ⟨b3, 0, none⟩) ∧ st.env 9 = .pointer (some ⟨bi, 0, none⟩) ∧ Heap.le H st.heap ∧ st.heap b2 = some (.row true 0 [.int .i64 0, .int .i64 0, .int .i64 0, .int .i64 0] 0) ∧ st.heap b3 = some (.row true 0 (out.map nI) 0) ∧ st.heap bi = some (.iter q ck seen ck) ∧
    out.length = 4 ∧ (out = [0, 0, 0, 0] ∨ out ∈ f) ∧ ∀ (i : Nat) (e : Nat × Value × Value) (x : List Nat), es[i]? = some e → f[i]? = some x → e.1 ∈ seen → x = out ∨ lexGt out x = true
theorem nd_idx {es : List (Nat × Value × Value)} (hn : (es.map (·.1)).Nodup) {i j : Nat} {e e' : Nat × Value × Value} (h1 : es[i]? = some e) (h2 : es[j]? = some e') (h : e'.1 = e.1) : j = i := by
  have hj : j < (es.map (·.1)).length := by
    have := (List.getElem?_eq_some_iff.1 h2).1
    simpa using this
  refine (List.getElem?_inj hj hn).1 ?_
  rw [List.getElem?_map, List.getElem?_map, h1, h2]
  simp [h]
theorem find_nd {es : List (Nat × Value × Value)} (hn : (es.map (·.1)).Nodup) {e : Nat × Value × Value} (he : e ∈ es) : es.find? (·.1 == e.1) = some e := by
  induction es with
  | nil => cases he
  | cons y l ih =>
    rw [List.map_cons, List.nodup_cons] at hn
    rcases List.mem_cons.1 he with rfl | h
    · simp
    · have hne : ¬ y.1 = e.1 := fun h2 => hn.1 (by rw [h2]; exact List.mem_map_of_mem h)
      rw [List.find?_cons_of_neg (by simpa using hne)]
      exact ih hn.2 h
/-- The first cassettes' first, of lists alike long. -/
structure LexMax (f : List (List Nat)) (x : List Nat) : Prop where
  len : x.length = 4
  is : x = [0, 0, 0, 0] ∨ x ∈ f
  max : ∀ y ∈ f, y = x ∨ lexGt x y = true
set_option maxHeartbeats 1000000 in
theorem best_c {H R : Heap} {p q c : Nat} {ms ws ds : List Nat} {f : List (List Nat)} (hD : SrD ms ws ds) (hR : Heap.le R H) (h : Sr R p q ms ws ds c f) (hf : ∀ y ∈ f, y.length = 4) :
    ECalls Try.prog 19 #[.pointer (some ⟨p, 0, none⟩)] H fun v H' => ∃ x, v = notesL x ∧ LexMax f x ∧ Heap.le H H' := by
  refine ecalls_of_ewp (args := [_]) Try.func19 rfl rfl rfl (by simp [Try.ntmps19]) (by kernel_rfl) ?_
  obtain ⟨hl15, _, _, _, s13, s14⟩ := srC_at (c := c) (q := q) hD
  obtain ⟨_, s14e⟩ := List.getElem?_eq_some_iff.1 s14
  have hrow := hR _ _ h.row
  obtain ⟨ck, es, hq0, he0⟩ := h.map
  have hq := hR _ _ hq0
  simp (disch := first | omega | assumption | decide | (simp <;> omega) | fail) [facts, ]
  refine fresh_intro fun b2 hb2 => ?_
  have hl2 := le_upd (.row true 0 [.int .i64 0, .int .i64 0, .int .i64 0, .int .i64 0] 0) hb2
  have r2 := upd_same H b2 (.row true 0 [.int .i64 0, .int .i64 0, .int .i64 0, .int .i64 0] 0)
  generalize upd H b2 (.row true 0 [.int .i64 0, .int .i64 0, .int .i64 0, .int .i64 0] 0) = H2 at *
  simp (disch := first | omega | assumption | decide | (simp <;> omega) | fail) [facts, ]
  refine fresh_intro fun b3 hb3 => ?_
  have hl3 := le_upd (.row true 0 [.int .i64 0, .int .i64 0, .int .i64 0, .int .i64 0] 0) hb3
  have r3 := upd_same H2 b3 (.row true 0 [.int .i64 0, .int .i64 0, .int .i64 0, .int .i64 0] 0)
  have r2' := hl3 _ _ r2
  have h23 : b2 ≠ b3 := ne_of_fresh hb3 r2
  have hb3H : H b3 = none := le_of_none hl2 hb3
  generalize upd H2 b3 (.row true 0 [.int .i64 0, .int .i64 0, .int .i64 0, .int .i64 0] 0) = H3 at *
  have hl03 := Heap.le_trans hl2 hl3
  have hrow3 := hl03 _ _ hrow
  have hq3 := hl03 _ _ hq
  simp (disch := first | omega | assumption | decide | (simp <;> omega) | fail) [facts, hrow3, s14, s14e]
  have hrange : ∀ (K : Kont), (∀ b, H3 b = none → K (.pointer (some ⟨b, 0, none⟩)) (upd H3 b (.iter q ck [] ck))) → eRange Try.prog 52 (.map (some q)) H3 K := fun K hK => by
    unfold eRange
    simp only [(by simp [facts] : und Try.prog 52 = .map 26 4), hq3]
    exact hK
  refine hrange _ fun bi hbi => ?_
  simp (disch := first | omega | assumption | decide | (simp <;> omega) | fail) [facts, ]
  have ri := upd_same H3 bi (.iter q ck [] ck)
  have hli := le_upd (.iter q ck [] ck) hbi
  have r2i := hli _ _ r2'
  have r3i := hli _ _ r3
  have h2i : b2 ≠ bi := ne_of_fresh hbi r2'
  have h3i : b3 ≠ bi := ne_of_fresh hbi r3
  have hbiH : H bi = none := le_of_none hl03 hbi
  have hl0i := Heap.le_trans hl03 hli
  generalize upd H3 bi (.iter q ck [] ck) = H4 at *
  refine w_loop (bestInv H q ck es f b2 b3 bi) (restM es bi) ?_ ?_
  · exact ⟨[], [0, 0, 0, 0], by simp, by simp, by simp, hl0i, r2i, r3i, ri, rfl, .inl rfl, fun i e x _ _ hm => by cases hm⟩
  rintro ⟨env, G⟩ ⟨seen, out, e2, e3, e9, hle, g2, g3, gi, hlo, hio, hmax⟩
  simp only at e2 e3 e9 hle g2 g3 gi
  have hqG := hle _ _ hq
  have hqi : q ≠ bi := fun e => by rw [e, hbiH] at hq; cases hq
  simp (disch := first | omega | assumption | decide | (simp <;> omega) | fail) [facts, e9]
  unfold eNext
  simp only [gi, hqG, and_self, true_and]
  intro hnd
  have hlen : es.length = f.length := by
    have := congrArg List.length he0
    simpa using this
  refine ⟨fun hall => ?_, fun e he hi => ?_⟩
  · have htk : List.take 4 (out.map nI) = out.map nI := List.take_of_length_le (by simp [hlo])
    have hol : (out.map nI).length = 4 := by simp [hlo]
    have hone := nI_one out
    simp (disch := first | omega | assumption | decide | (simp <;> omega) | fail) [facts, e2, e3, g3, g2, htk, hol]
    refine ⟨_, Heap.le_refl _, out, rfl, ⟨hlo, hio, fun y hy => ?_⟩, le_updN _ hle hb2⟩
    obtain ⟨i, hi⟩ := List.mem_iff_getElem?.1 hy
    have hil : i < es.length := by
      have := (List.getElem?_eq_some_iff.1 hi).1
      omega
    exact hmax i es[i] y (List.getElem?_eq_getElem hil) hi (hall _ (List.getElem_mem hil))
  · obtain ⟨i, hei⟩ := List.mem_iff_getElem?.1 he
    have hil := (List.getElem?_eq_some_iff.1 hei).1
    obtain ⟨x, hx⟩ : ∃ x, f[i]? = some x := ⟨_, List.getElem?_eq_getElem (by omega)⟩
    have hex : e.2 = entN x := by
      have h1 : (es.map (·.2))[i]? = some e.2 := by rw [List.getElem?_map, hei]; rfl
      rw [he0, List.getElem?_map, hx] at h1
      exact (Option.some.inj h1).symm
    have hx4 := hf x (List.mem_of_getElem? hx)
    have hxl : (x.map nI).length = 4 := by simp [hx4]
    have hone := nI_one x
    have htk : List.take 4 (out.map nI) = out.map nI := List.take_of_length_le (by simp [hlo])
    have htkx : List.take 4 (x.map nI) = x.map nI := List.take_of_length_le (by simp [hx4])
    have hol : (out.map nI).length = 4 := by simp [hlo]
    obtain ⟨s, kk, vv⟩ := e
    simp only [entN, Prod.mk.injEq] at hex
    obtain ⟨rfl, rfl⟩ := hex
    have hfd := find_nd hnd he
    have hqi2 : upd G bi (.iter q ck (seen ++ [s]) ck) q = some (.mapG ck es) := (upd_ne _ _ hqi).trans hqG
    have hent : qEntry (.pointer (some ⟨bi, 0, none⟩)) (upd G bi (.iter q ck (seen ++ [s]) ck)) = some (.tuple #[notesL x, .bool true]) := by
      unfold qEntry
      simp only [upd_same, hqi2, if_true]
      simp only [List.getLast?_append, List.getLast?_singleton, Option.some_or, Option.bind_some]
      rw [hfd]; rfl
    have g3' : upd G bi (.iter q ck (seen ++ [s]) ck) b3 = some (.row true 0 (out.map nI) 0) := (upd_ne _ _ h3i).trans g3
    have g2' : upd G bi (.iter q ck (seen ++ [s]) ck) b2 = _ := (upd_ne _ _ h2i).trans g2
    have gi' := upd_same G bi (.iter q ck (seen ++ [s]) ck)
    have hle' : Heap.le H (upd G bi (.iter q ck (seen ++ [s]) ck)) := le_updN _ hle hbiH
    have hms := filter_less (p := fun e : Nat × Value × Value => !seen.contains e.1) (q := fun e => !(seen ++ [s]).contains e.1) he (by simpa using hi) (by simp) (by intro y; simp; intro h1 _; exact h1)
    generalize upd G bi (.iter q ck (seen ++ [s]) ck) = G1 at *
    simp (disch := first | omega | assumption | decide | (simp <;> omega) | fail) [facts, e9, hent, notesL]
    refine fresh_intro fun b4 hb4 => ?_
    have hb4H : H b4 = none := le_of_none hle' hb4
    have n2 : b2 ≠ b4 := ne_of_fresh hb4 g2'
    have n3 : b3 ≠ b4 := ne_of_fresh hb4 g3'
    have ni : bi ≠ b4 := ne_of_fresh hb4 gi'
    simp (disch := first | omega | assumption | decide | (simp <;> omega) | fail) [facts, e9, e3, upd_upd, notesL, hxl]
    have k4 := upd_same G1 b4 (.row true 0 (x.map nI) 0)
    have k3 := (upd_ne (H := G1) (i := b3) (b := b4) (.row true 0 (x.map nI) 0) n3).trans g3'
    have k2 := (upd_ne (H := G1) (i := b2) (b := b4) (.row true 0 (x.map nI) 0) n2).trans g2'
    have ki := (upd_ne (H := G1) (i := bi) (b := b4) (.row true 0 (x.map nI) 0) ni).trans gi'
    have kle : Heap.le H (upd G1 b4 (.row true 0 (x.map nI) 0)) := le_updN _ hle' hb4H
    generalize upd G1 b4 (.row true 0 (x.map nI) 0) = G2 at *
    simp (disch := first | omega | assumption | decide | (simp <;> omega) | fail) [facts, k3, htk, htkx, hol, e3]
    have cm := more_c x out hx4 hlo G2
    unfold notesL at cm
    refine cm.mono ?_
    rintro v G3 ⟨rfl, hle3⟩
    have j4 := hle3 _ _ k4
    have j3 := hle3 _ _ k3
    have j2 := hle3 _ _ k2
    have ji := hle3 _ _ ki
    have jle := Heap.le_trans kle hle3
    cases hmo : lexGt x out with
    | true =>
      simp (disch := first | omega | assumption | decide | (simp <;> omega) | fail) [facts, e3, j4, j3, htkx, hxl]
      have hsp : splice (out.map nI) 0 (x.map nI) = x.map nI := splice_all (by simp [hx4, hlo])
      simp only [hsp]
      refine ⟨_, Heap.le_refl _, ⟨seen ++ [s], x, by simp [e2], by simp [e3], by simp [e9], le_updN _ jle hb3H, (upd_ne _ _ h23).trans j2, upd_same _ _ _, (upd_ne _ _ h3i.symm).trans ji, hx4, .inr (List.mem_of_getElem? hx), fun i' e' x' he' hx' hs' => ?_⟩, ?_⟩
      · rcases List.mem_append.1 hs' with h1 | h1
        · rcases hmax i' e' x' he' hx' h1 with e0 | e0
          · right; rw [e0]; exact hmo
          · right; exact lex_trans hmo e0
        · simp at h1
          have hii := nd_idx hnd hei he' h1
          subst hii
          rw [hx] at hx'
          exact .inl (Option.some.inj hx').symm
      · have e1 : restM es bi ⟨env, G⟩ = (es.filter fun e => !seen.contains e.1).length := by simp only [restM, gi]
        rw [e1]
        simp only [restM, upd_ne _ _ h3i.symm, ji]
        exact hms
    | false =>
      simp (disch := first | omega | assumption | decide | (simp <;> omega) | fail) [facts, e3, j4, j3]
      refine ⟨_, Heap.le_refl _, ⟨seen ++ [s], out, by simp [e2], by simp [e3], by simp [e9], jle, j2, j3, ji, hlo, hio, fun i' e' x' he' hx' hs' => ?_⟩, ?_⟩
      · rcases List.mem_append.1 hs' with h1 | h1
        · exact hmax i' e' x' he' hx' h1
        · simp at h1
          have hii := nd_idx hnd hei he' h1
          subst hii
          rw [hx] at hx'
          have hxx := (Option.some.inj hx').symm
          subst hxx
          rcases lex_tri (x := x') (y := out) (by omega) with h2 | h2 | h2
          · rw [hmo] at h2; cases h2
          · exact .inl h2
          · exact .inr h2
      · have e1 : restM es bi ⟨env, G⟩ = (es.filter fun e => !seen.contains e.1).length := by simp only [restM, gi]
        rw [e1]
        simp only [restM, ji]
        exact hms
end Go.Proofs.Ytiaigpkaajnpoaa.GL
