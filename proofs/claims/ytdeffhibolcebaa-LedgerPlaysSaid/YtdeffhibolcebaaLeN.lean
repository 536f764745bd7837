/- Layer 21: the document's ledger: Debit, Reverse, Net. -/
import Derived.Test.YtdeffhibolcebaaLeM
namespace Go.Proofs.Ytdeffhibolcebaa.GL
open Go Go.RowKit Go.MapKept
set_option maxRecDepth 10000
set_option pp.deepTerms.threshold 8
set_option pp.maxSteps 3000
set_option linter.unusedSimpArgs false
set_option linter.unusedVariables false

structure Wf (F : List Acc) (L : List LE) : Prop where
  ok : ∀ e ∈ L, e.ans = okS → ∃ i, idxF e.pan F = some i
  no : ∀ e ∈ L, e.ans ≠ okS → e.net = 0
  bd : ∀ e ∈ L, 0 ≤ e.net ∧ e.net ≤ 1000000
  fb : ∀ x ∈ F, 0 ≤ x.2 ∧ x.2 ≤ 10000000000000
  nf : F.length ≤ 64
  nl : L.length ≤ 1000
theorem idxF_set {q : ByteArray} {x : Acc} {v : Int} : ∀ {F : List Acc} {i : Nat}, F[i]? = some x → idxF q (F.set i (x.1, v)) = idxF q F
  | [], i, h => by simp at h
  | y :: l, 0, h => by
    simp at h; subst h
    simp [idxF]
  | y :: l, i + 1, h => by
    simp only [List.set_cons_succ, idxF]
    rw [idxF_set (F := l) (i := i) (by simpa using h)]
theorem ofE_set {x : Acc} {v : Int} {F : List Acc} {i : Nat} (h : F[i]? = some x) (e : LE) : ofE (F.set i (x.1, v)) e = ofE F e := by
  unfold ofE; rw [idxF_set h]
theorem setM_at {pan : ByteArray} {F : List Acc} {i : Nat} {v : Int} (h : idxF pan F = some i) : setM pan v F = F.set i (pan, v) := by unfold setM; rw [h]
theorem gF_at {pan : ByteArray} {F : List Acc} {i : Nat} {v : Int} (h : idxF pan F = some i) (hx : F[i]? = some (pan, v)) : gF pan F = some v := by unfold gF; rw [h]; simp [hx]
theorem setL_at {e : LE} {L : List LE} {i : Nat} (h : idxE e.t e.s L = some i) : setL e L = L.set i e := by unfold setL; rw [h]
theorem gE_at {t s : Int} {L : List LE} {i : Nat} {e : LE} (h : idxE t s L = some i) (he : L[i]? = some e) : gE t s L = some e := by unfold gE; rw [h]; simpa using he
section
variable {H R : Heap} {p : Nat} {F : List Acc} {L : List LE}
/-- The money of one account is another. -/
theorem RLed.money (h : RLed R p F L) {i : Nat} {x : Acc} (hi : F[i]? = some x) : ∃ b o c tail room v0 v2 v3 v4 v5, R p = some (.row true 0 [v0, .slice (some ⟨b, o, none⟩) F.length c, v2, v3, v4, v5] 0) ∧ R b = some (.row true o ((F.map fun x => Value.int .i64 x.2) ++ tail) room) ∧
    ∀ w, RLed (upd R b (.row true o (((F.map fun x => Value.int .i64 x.2) ++ tail).set i (.int .i64 w)) room)) p (F.set i (x.1, w)) L := by
  obtain ⟨v0, v1, v2, v3, v4, v5, hr, hl⟩ := h.open
  have hlt := (List.getElem?_eq_some_iff.1 hi).1
  obtain ⟨b, o, c, tail, room, rfl, hb, hbp, _, hset⟩ := hl.cell (i := 1) rfl rfl (by omega)
  refine ⟨b, o, c, tail, room, v0, v2, v3, v4, v5, hr, hb, fun w => ⟨_, by rw [upd_ne _ _ hbp.symm]; exact hr, ?_⟩⟩
  have := hset i (.int .i64 w) hlt
  have e : (rxs F L).set 1 (1, F.length, (F.map fun x => Value.int .i64 x.2).set i (.int .i64 w)) = rxs (F.set i (x.1, w)) L := by
    unfold rxs
    have e1 : ((F.set i (x.1, w)).map fun x => Value.string x.1) = F.map fun x => .string x.1 := by
      rw [List.map_set]
      refine List.ext_getElem? fun j => ?_
      by_cases hj : i = j
      · subst hj; rw [List.getElem?_set_self (by simpa using hlt), List.getElem?_map, hi]; rfl
      · rw [List.getElem?_set_ne hj]
    have e2 : (L.map fun e => Value.int .i64 (ofE (F.set i (x.1, w)) e)) = L.map fun e => .int .i64 (ofE F e) := by
      refine List.map_congr_left fun e _ => ?_
      rw [ofE_set hi]
    rw [e1, e2, List.map_set, List.length_set]
    rfl
  rw [e] at this
  exact this
/-- The net of one key is another. -/
theorem RLed.nets (h : RLed R p F L) {i : Nat} {e : LE} (hi : L[i]? = some e) : ∃ b o c tail room v0 v1 v2 v3 v4, R p = some (.row true 0 [v0, v1, v2, v3, v4, .slice (some ⟨b, o, none⟩) L.length c] 0) ∧ R b = some (.row true o ((L.map fun e => Value.int .i64 e.net) ++ tail) room) ∧
    ∀ w, RLed (upd R b (.row true o (((L.map fun e => Value.int .i64 e.net) ++ tail).set i (.int .i64 w)) room)) p F (L.set i ⟨e.t, e.s, e.ans, e.pan, w⟩) := by
  obtain ⟨v0, v1, v2, v3, v4, v5, hr, hl⟩ := h.open
  have hlt := (List.getElem?_eq_some_iff.1 hi).1
  obtain ⟨b, o, c, tail, room, rfl, hb, hbp, _, hset⟩ := hl.cell (i := 5) rfl rfl (by omega)
  refine ⟨b, o, c, tail, room, v0, v1, v2, v3, v4, hr, hb, fun w => ⟨_, by rw [upd_ne _ _ hbp.symm]; exact hr, ?_⟩⟩
  have := hset i (.int .i64 w) hlt
  have e : (rxs F L).set 5 (1, L.length, (L.map fun e => Value.int .i64 e.net).set i (.int .i64 w)) = rxs F (L.set i ⟨e.t, e.s, e.ans, e.pan, w⟩) := by
    have same : ∀ {β : Type} (f : LE → β), f ⟨e.t, e.s, e.ans, e.pan, w⟩ = f e → (L.set i ⟨e.t, e.s, e.ans, e.pan, w⟩).map f = L.map f := fun f hf => by
      rw [List.map_set]
      refine List.ext_getElem? fun j => ?_
      by_cases hj : i = j
      · subst hj; rw [List.getElem?_set_self (by simpa using hlt), List.getElem?_map, hi, hf]; rfl
      · rw [List.getElem?_set_ne hj]
    unfold rxs
    have e1 : rowsC LE.key (L.set i ⟨e.t, e.s, e.ans, e.pan, w⟩) = rowsC LE.key L := by
      have := same LE.key rfl
      unfold rowsC
      rw [this]
    rw [e1, same (fun e => Value.string e.ans) rfl, same (fun e => Value.int .i64 (ofE F e)) rfl, List.map_set, List.length_set]
    rfl
  rw [e] at this
  exact this
theorem rnet_c (hR : Heap.le R H) (h : RLed R p F L) (t s : Int) (hn : L.length ≤ 1000) : ECalls Try.prog 16 #[.pointer (some ⟨p, 0, none⟩), .agg #[.int .u16 t, .int .u32 s]] H fun v H' => v = .int .i64 (netE t s L) ∧ Heap.le H H' := by
  refine ecalls_of_ewp (args := [_, _]) Try.func16 rfl rfl rfl (by simp [Try.ntmps16]) (by kernel_rfl) ?_
  simp (disch := first | omega | assumption | decide | (simp <;> omega) | fail) [facts, ]
  refine fresh_intro fun kb hkb => ?_
  have hle := le_upd (.row true 0 [.int .u16 t, .int .u32 s] 0) hkb
  have hk := upd_same H kb (.row true 0 [.int .u16 t, .int .u32 s] 0)
  generalize upd H kb (.row true 0 [.int .u16 t, .int .u32 s] 0) = H1 at *
  simp (disch := first | omega | assumption | decide | (simp <;> omega) | fail) [facts, hk]
  refine (at_c (Heap.le_trans hR hle) h t s (by omega)).mono ?_
  rintro v H2 ⟨rfl, hle2⟩
  have hle3 := Heap.le_trans hle hle2
  cases hi : idxE t s L with
  | none =>
    have hnet : netE t s L = 0 := by unfold netE gE; rw [hi]; rfl
    rw [hnet]
    simp only [idI]
    simp (disch := first | omega | assumption | decide | (simp <;> omega) | fail) [facts, ]
    exact ⟨_, Heap.le_refl _, hle3⟩
  | some i =>
    obtain ⟨e, he, _⟩ := idxE_lt hi
    have hlt := (List.getElem?_eq_some_iff.1 he).1
    have hnet : netE t s L = e.net := by unfold netE; rw [gE_at hi he]; rfl
    rw [hnet]
    obtain ⟨v0, v1, v2, v3, v4, v5, hr, hl⟩ := h.open
    have hR2 := Heap.le_trans hR hle3
    obtain ⟨a, c, rfl, hs5, _⟩ := (hl.get (i := 5) rfl rfl).sl hR2
    simp only [rxs] at hs5
    have hp := hR2 _ _ hr
    simp only at hp
    obtain ⟨ab, ao, rfl⟩ := hs5.lit (by omega)
    have rx : rd1U (H2 ab) (ao + i) = some (.int .i64 e.net) := by
      have := hs5.at (f := fun e : LE => Value.int .i64 e.net) he
      exact this
    have h0 : (0 : Int) ≤ (i : Int) := by omega
    have hltI : (i : Int) < (L.length : Int) := by omega
    simp only [idI]
    simp (disch := first | omega | assumption | decide | (simp <;> omega) | fail) [facts, h0, hp, hltI, rx]
    exact ⟨_, Heap.le_refl _, hle3⟩
end
end Go.Proofs.Ytdeffhibolcebaa.GL
