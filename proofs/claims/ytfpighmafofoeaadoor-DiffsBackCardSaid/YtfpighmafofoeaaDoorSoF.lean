/- Layer 20: slices.SortedFunc of a map's keys: the keys, sorted. -/
import Derived.Test.YtfpighmafofoeaaDoorSoE
namespace Go.Proofs.YtfpighmafofoeaaDoor.GL
open Go Go.RowKit Go.Shelf
set_option maxRecDepth 100000
set_option pp.deepTerms.threshold 8
set_option pp.maxSteps 3000
set_option linter.unusedSimpArgs false
set_option linter.unusedVariables false

theorem len64_0 (H : Heap) : ECalls Tryd.prog 68 #[.int .u64 0] H fun v H' => v = .int .i64 0 ∧ H' = H := by
  refine ecalls_of_ewp (args := [_]) Tryd.func68 rfl rfl rfl (by simp [Tryd.ntmps68]) (by kernel_rfl) ?_
  simp (disch := first | omega | assumption | decide | (simp <;> omega) | fail) [facts, ]
theorem len_0 (H : Heap) : ECalls Tryd.prog 63 #[.int .u64 0] H fun v H' => v = .int .i64 0 ∧ H' = H := by
  refine ecalls_of_ewp (args := [_]) Tryd.func63 rfl rfl rfl (by simp [Tryd.ntmps63]) (by kernel_rfl) ?_
  simp (disch := first | omega | assumption | decide | (simp <;> omega) | fail) [facts, ]
  refine (len64_0 H).mono ?_
  rintro v H' ⟨rfl, rfl⟩
  simp (disch := first | omega | assumption | decide | (simp <;> omega) | fail) [facts, ]
theorem ins_0 (H : Heap) (f : Value) : ECalls Tryd.prog 72 #[.slice none 0 0, .int .i64 0, .int .i64 0, f] H fun v H' => v = .tuple #[] ∧ H' = H := by
  refine ecalls_of_ewp (args := [_, _, _, _]) Tryd.func72 rfl rfl rfl (by simp [Tryd.ntmps72]) (by kernel_rfl) ?_
  simp (disch := first | omega | assumption | decide | (simp <;> omega) | fail) [facts, ]
  refine w_loop (fun st => st.env 8 = .int .i64 1 ∧ st.env 2 = .int .i64 0 ∧ st.heap = H) (fun _ => 0) ?_ ?_
  · exact ⟨by simp, by simp, by simp⟩
  rintro ⟨env, G⟩ ⟨e8, e2, e3⟩
  simp only at e8 e2 e3
  subst e3
  simp (disch := first | omega | assumption | decide | (simp <;> omega) | fail) [facts, e8, e2]
theorem pdq_0 (H : Heap) (f : Value) : ECalls Tryd.prog 62 #[.slice none 0 0, .int .i64 0, .int .i64 0, .int .i64 0, f] H fun v H' => v = .tuple #[] ∧ H' = H := by
  refine ecalls_of_ewp (args := [_, _, _, _, _]) Tryd.func62 rfl rfl rfl (by simp [Tryd.ntmps62]) (by kernel_rfl) ?_
  simp (disch := first | omega | assumption | decide | (simp <;> omega) | fail) [facts, ]
  refine w_loop (fun st => st.env 0 = .slice none 0 0 ∧ st.env 1 = .int .i64 0 ∧ st.env 2 = .int .i64 0 ∧ st.env 4 = f ∧ st.heap = H) (fun _ => 0) ?_ ?_
  · exact ⟨by simp, by simp, by simp, by simp, by simp⟩
  rintro ⟨env, G⟩ ⟨e0, e1, e2, e4, e3⟩
  simp only at e0 e1 e2 e4 e3
  subst e3
  simp (disch := first | omega | assumption | decide | (simp <;> omega) | fail) [facts, e0, e1, e2, e4]
  refine (ins_0 G f).mono ?_
  rintro v H' ⟨rfl, rfl⟩
  simp (disch := first | omega | assumption | decide | (simp <;> omega) | fail) [facts, ]
theorem sort_0 (H : Heap) (f : Value) : ECalls Tryd.prog 51 #[.slice none 0 0, f] H fun v H' => v = .tuple #[] ∧ H' = H := by
  refine ecalls_of_ewp (args := [_, _]) Tryd.func51 rfl rfl rfl (by simp [Tryd.ntmps51]) (by kernel_rfl) ?_
  simp (disch := first | omega | assumption | decide | (simp <;> omega) | fail) [facts, ]
  refine (len_0 H).mono ?_
  rintro v H' ⟨rfl, rfl⟩
  simp (disch := first | omega | assumption | decide | (simp <;> omega) | fail) [facts, ]
  refine (pdq_0 H' f).mono ?_
  rintro v H' ⟨rfl, rfl⟩
  simp (disch := first | omega | assumption | decide | (simp <;> omega) | fail) [facts, ]
theorem keys_c (H : Heap) (m : Nat) : ECalls Tryd.prog 45 #[.map (some m)] H fun v H' => ∃ b, H b = none ∧ v = .func (.func 52) #[] #[.pointer (some ⟨b, 0, none⟩)] ∧ H' = upd H b (.row true 0 [.map (some m)] 0) := by
  refine ecalls_of_ewp (args := [_]) Tryd.func45 rfl rfl rfl (by simp [Tryd.ntmps45]) (by kernel_rfl) ?_
  simp (disch := first | omega | assumption | decide | (simp <;> omega) | fail) [facts, ]
  refine fresh_intro fun b hb => ?_
  simp (disch := first | omega | assumption | decide | (simp <;> omega) | fail) [facts, ]
  exact ⟨_, Heap.le_refl _, b, hb, rfl, rfl⟩
/-- What a map's keys make: a new row, or nil. -/
def KeyRow (H : Heap) (ks : List KZ) (v : Value) (H' : Heap) : Prop :=
  (ks = [] ∧ v = .slice none 0 0 ∧ H' = H) ∨ ∃ g cap tail, H g = none ∧ v = .slice (some ⟨g, 0, none⟩) ks.length cap ∧ H' = upd H g (.row true 0 (rowsC KZ.cells ks ++ tail) 0) ∧ ks.length ≤ cap ∧ 2 * cap = 2 * ks.length + tail.length
theorem appendSeq_c (H : Heap) (bm m : Nat) (es : List (Value × Value)) (ks : List KZ) (hb : H bm = some (.row true 0 [.map (some m)] 0)) (hm : H m = some (.map es)) (hk : es.map (·.1) = ks.map encK) (hn : ks.length ≤ 1000000) :
    ECalls Tryd.prog 61 #[.slice none 0 0, .func (.func 52) #[] #[.pointer (some ⟨bm, 0, none⟩)]] H fun v H' => ∃ ks', ks'.Perm ks ∧ KeyRow H ks' v H' := by
  intro W0 w hs
  have hr : RowRep W0.heap.size w bm true 0 [.map (some m)] 0 := hs.rep bm _ hb
  have hc : w.cell? ⟨bm, 0, none⟩ = some (.map (some m)) := by simpa using hr.range 0 _ rfl
  obtain ⟨_, ents, he, hes, hborn⟩ := hs.map hm
  have hlen : ents.size = ks.length := by
    have : es.length = ks.length := by simpa using congrArg List.length hk
    rw [← this, ← hes]; simp
  have hlt : ∀ e ∈ ents.toList, e.born < ents.size := fun e hx => by
    obtain ⟨i, hi, hie⟩ := List.getElem_of_mem hx
    have := hborn i e (by simpa using (List.getElem?_eq_some_iff.2 ⟨hi, hie⟩))
    simp at hi; omega
  have hnd : (ents.toList.map (·.born)).Nodup := by
    have : ents.toList.map (·.born) = List.range ents.size := by
      apply List.ext_getElem?
      intro i
      by_cases hi : i < ents.size
      · have h2 := hborn i ents[i] (by simp [hi])
        rw [List.getElem?_map, List.getElem?_range hi]
        simp [hi, h2]
      · rw [List.getElem?_eq_none (by simp; omega), List.getElem?_eq_none (by simp; omega)]
    rw [this]; exact List.nodup_range
  have hke : ents.toList.map (·.key) = ks.map encK := by
    rw [← hk, ← hes, List.map_map]; rfl
  have hseq := keys_give Fence.wide 2 trivial rfl (by omega) bm m ents.size ents w hc hr.lt he hlt hnd ks hke
  have eg : ∀ args w, (callFunc 52 args).run Tryd.prog w = .ok (.enter 52 args) w := enters_of Tryd.func52 (by kernel_rfl) rfl
  have hcall := callsIn_wide.1 (appendSeq_in Fence.wide 3 _ _ trivial trivial eg rfl (by omega) ents.size (by omega) _ (fun xs hx => by rw [hx.length_eq, hlen]; exact Nat.le_refl _) w hseq)
  refine hcall.mono ?_
  rintro e w' ⟨v, xs, rfl, hp, hrow, hnil, hB⟩
  have hkeep : ∀ b o, H b = some o → Rep W0.heap.size w' b o := fun b o e => (hs.rep b o e).of_block hB.size (hB.block b (hs.rep b o e).lt)
  have hbel : Below W0.heap.size W0 w' := hs.below.trans (hB.mono hs.below.size)
  rcases hrow.2 with ⟨rfl, h0⟩ | ⟨g, cap, cur, rfl, hg, hgb, hcap, hmax, hcs, htk⟩
  · have hx : xs = [] := List.eq_nil_of_length_eq_zero h0
    subst hx
    exact ⟨_, H, rfl, ⟨[], hp, .inl ⟨rfl, rfl, rfl⟩⟩, ⟨hbel, hkeep⟩⟩
  · have hgn : H g = none := by
      cases hh : H g with
      | none => rfl
      | some o => exact absurd (hs.rep _ _ hh).lt (by omega)
    have hglt : g < w'.heap.size := (Array.getElem?_eq_some_iff.1 hgb).1
    have hsplit : cur.toList = rowsC KZ.cells xs ++ cur.toList.drop (xs.length * 2) := by rw [← htk, List.take_append_drop]
    refine ⟨_, upd H g (.row true 0 (rowsC KZ.cells xs ++ cur.toList.drop (xs.length * 2)) 0), rfl, ⟨xs, hp, .inr ⟨g, cap, _, hgn, rfl, rfl, hcap, by simp; omega⟩⟩, ⟨hbel, fun b o e => ?_⟩⟩
    by_cases hbg : b = g
    · subst hbg
      rw [upd_same] at e
      cases e
      rw [← hsplit]
      refine ⟨hglt, fun j u hj => ?_, fun _ => ⟨by have := hs.below.size; omega, fun j hj => ?_⟩⟩
      · simp only [World.cell?, hgb]
        simpa using hj
      · simp only [World.cell?, World.frozen?, hgb]
        have : j < cur.size := by simpa using hj
        simp [this]
    · rw [upd_ne _ _ hbg] at e
      exact hkeep b o e
end Go.Proofs.YtfpighmafofoeaaDoor.GL
