/- Layer 26: a message is put. -/
import Derived.Test.YtodflnpiabhpeaaLiB
namespace Go.Proofs.Ytodflnpiabhpeaa.GL
open Go Go.RowKit
set_option maxRecDepth 10000
set_option pp.deepTerms.threshold 8
set_option pp.maxSteps 3000
set_option linter.unusedSimpArgs false
set_option linter.unusedVariables false

/-- A list to which one message is added: its new row. -/
theorem Net.added {D H H2 : Heap} {p : Nat} {ms : List MsgZ} (h : Net D H p ms) {m : MsgZ} (hle : Heap.le H H2) (hout : Out H H2 (.slice m.a m.b.length m.c) 1 m.b.length (m.b.map u8V)) (hm : m.b.length ≤ 1000) (hms : ms.length ≤ 1000000)
    {K : Kont} {b5 : Nat} (hb5 : H2 b5 = none) {a : Option Addr} {cap : Nat} (hp : H p = some (.row true 0 [.slice a ms.length cap] 0))
    (hK : ∀ a' cap' H3, H3 p = some (.row true 0 [.slice a ms.length cap] 0) → (∃ D', Heap.le D D' ∧ Net D' (upd H3 p (.row true 0 [.slice a' (ms.length + 1) cap'] 0)) p (ms ++ [m]) ∧ ∀ q o, H q = some o → SlA (dele D' q) m.a m.b.length 1 (m.b.map u8V)) → K (.slice a' (ms.length + 1) cap') H3) :
    eApp Try.prog 39 39 (.slice a ms.length cap) (.slice (some ⟨b5, 0, none⟩) 1 1) (upd H2 b5 (.row true 0 m.cells 0)) K := by
  have hone : m.cells.all (·.oneCell') = true := by simpa [cellsM] using cellsM_one [m]
  have hp2 := hle _ _ hp
  have hp5 : p ≠ b5 := ne_of_fresh hb5 hp2
  have hsrc := srcOne (P := Try.prog) (H := H2) (e := 29) (t1 := 39) (e1 := 29) (b := b5) (s := 3) (z := .agg #[.int .i64 0, .int .i64 0, .slice none 0 0]) (cs := m.cells) (by simp [facts]) (by simp [facts]) (by simp [facts]) rfl
  rcases h.list with ⟨rfl, h1⟩ | ⟨q, o, cap0, tail, room, hq, hqp, h1, h2, h3, h4⟩
  · rw [hp] at h1
    simp only [Option.some.injEq, GObj.row.injEq, List.cons.injEq, Value.slice.injEq, List.length_nil, true_and, and_true] at h1
    obtain ⟨rfl, rfl⟩ := h1
    refine app_nil (e := 29) (s := 3) (nbs := 40) (z := .agg #[.int .i64 0, .int .i64 0, .slice none 0 0]) (n := 1) (ys := m.cells) (by simp [facts]) (by simp [facts]) (by simp [facts]) (by simp [facts]) rfl (by decide) hsrc rfl hone (by decide) (fun h0 => absurd h0 (by decide)) ?_
    intro b cap' room' hb _ hown
    have hbp : p ≠ b := ne_of_fresh hb (by rw [upd_ne _ _ hp5]; exact hp2)
    refine hK (some ⟨b, 0, none⟩) cap' _ (by rw [upd_ne _ _ hbp, upd_ne _ _ hp5]; exact hp2) ⟨dele H2 p, le_deleN (Heap.le_trans h.le hle) h.here, ?_⟩
    obtain ⟨a1, c1, e1, sl1, _⟩ := out_part (D := dele H2 p) hout fun b o hb0 hb2 => by
      rw [dele_ne _ (ne_of_fresh hb0 hp).symm]; exact hb2
    have hoff : ∀ q o, H q = some o → SlA (dele (dele H2 p) q) m.a m.b.length 1 (m.b.map u8V) := fun q o hq => by
      obtain ⟨a2, c2, e2, sl2, _⟩ := out_part (D := dele (dele H2 p) q) hout fun b o hb0 hb2 => by
        rw [dele_ne _ (ne_of_fresh hb0 hq).symm, dele_ne _ (ne_of_fresh hb0 hp).symm]; exact hb2
      simp only [Value.slice.injEq] at e2
      rw [e2.1]; exact sl2
    simp only [Value.slice.injEq] at e1
    have hDb : (dele H2 p) b = none := le_of_none (dele_le _ _) (le_of_none (le_upd _ hb5) hb)
    refine ⟨⟨le_updN _ (le_updN _ (Heap.le_trans (dele_le _ _) (le_upd _ hb5)) hDb) (dele_same _ _), dele_same _ _, fun m' hm' => ?_, .inr ⟨b, 0, cap', [], room', hDb, hbp.symm, upd_same _ _ _, ?_, hown.capOk, ?_⟩⟩, hoff⟩
    · simp only [List.nil_append, List.mem_singleton] at hm'
      subst hm'
      rw [e1.1, e1.2.2]
      exact ⟨sl1, by assumption, hm⟩
    · rw [upd_ne _ _ hbp.symm, upd_same]; simp [cellsM]
    · have := hown.fits; simpa using this
  · rw [hp] at h1
    simp only [Option.some.injEq, GObj.row.injEq, List.cons.injEq, Value.slice.injEq, true_and, and_true] at h1
    obtain ⟨rfl, rfl⟩ := h1
    have hq2 := hle _ _ h2
    have hq5 : q ≠ b5 := ne_of_fresh hb5 hq2
    have hpq : p ≠ q := hqp.symm
    refine app_tail (e := 29) (s := 3) (nbs := 40) (z := .agg #[.int .i64 0, .int .i64 0, .slice none 0 0]) (n := 1) (ys := m.cells) (q := q) (o := o) (cs := cellsM ms) (tail := tail) (room := room) (by simp [facts]) (by simp [facts]) (by simp [facts]) (by simp [facts]) rfl (by decide) (by rw [upd_ne _ _ hq5]; exact hq2) (cellsM_len ms) h3 h4 hsrc rfl hone (by omega) (by decide) ?_
    intro b' o' cap' room' hb' hcap hfit
    have hbp : p ≠ b' := ne_of_fresh hb' (by rw [dele_ne _ hpq, upd_ne _ _ hp5]; exact hp2)
    have hDle : Heap.le (dele (dele H2 p) q) (dele (upd H2 b5 (.row true 0 m.cells 0)) q) := le_deleN (Heap.le_trans (dele_le _ _) (Heap.le_trans (dele_le _ _) (le_upd _ hb5))) (dele_same _ _)
    have hDb : (dele (dele H2 p) q) b' = none := le_of_none hDle hb'
    have hDp : (dele (dele H2 p) q) p = none := by rw [dele_ne _ hpq]; exact dele_same _ _
    have hDD : Heap.le D (dele (dele H2 p) q) := le_deleN (le_deleN (Heap.le_trans h.le hle) h.here) hq
    refine hK (some ⟨b', o', none⟩) cap' _ (by rw [upd_ne _ _ hbp, dele_ne _ hpq, upd_ne _ _ hp5]; exact hp2) ⟨dele (dele H2 p) q, hDD, ?_⟩
    obtain ⟨a1, c1, e1, sl1, _⟩ := out_part (D := dele (dele H2 p) q) hout fun b o hb0 hb2 => by
      rw [dele_ne _ (ne_of_fresh hb0 h2).symm, dele_ne _ (ne_of_fresh hb0 hp).symm]; exact hb2
    have hoff : ∀ r o, H r = some o → SlA (dele (dele (dele H2 p) q) r) m.a m.b.length 1 (m.b.map u8V) := fun r o hr => by
      obtain ⟨a2, c2, e2, sl2, _⟩ := out_part (D := dele (dele (dele H2 p) q) r) hout fun b o hb0 hb2 => by
        rw [dele_ne _ (ne_of_fresh hb0 hr).symm, dele_ne _ (ne_of_fresh hb0 h2).symm, dele_ne _ (ne_of_fresh hb0 hp).symm]; exact hb2
      simp only [Value.slice.injEq] at e2
      rw [e2.1]; exact sl2
    simp only [Value.slice.injEq] at e1
    refine ⟨⟨le_updN _ (le_updN _ hDle hDb) hDp, hDp, fun m' hm' => ?_, .inr ⟨b', o', cap', [], room', hDb, hbp.symm, by rw [List.length_append]; exact upd_same _ _ _, ?_, by rw [List.length_append]; exact hcap, ?_⟩⟩, hoff⟩
    · rcases List.mem_append.1 hm' with hm' | hm'
      · have := h.data m' hm'
        exact ⟨this.1.le hDD, this.2⟩
      · rw [List.mem_singleton] at hm'
        subst hm'
        rw [e1.1, e1.2.2]
        exact ⟨sl1, by assumption, hm⟩
    · rw [upd_ne _ _ hbp.symm, upd_same, cellsM_app]; simp [cellsM]
    · rw [List.length_append]; simpa using hfit

theorem netPut_c (D H : Heap) (p : Nat) (ms : List MsgZ) (h : Net D H p ms) (f t : Int) (a : Option Addr) (n c : Nat) (bs : List UInt8) (hb : ByA H a n bs) (hn : n ≤ 1000) (hms : ms.length ≤ 1000000) :
    ECalls Try.prog 7 #[.pointer (some ⟨p, 0, none⟩), .int .i64 f, .int .i64 t, .slice a n c] H fun v H' => ∃ D' m, Heap.le D D' ∧ m.f = f ∧ m.t = t ∧ m.b = bs ∧ Net D' H' p (ms ++ [m]) ∧ ∀ q o, H q = some o → SlA (dele D' q) m.a m.b.length 1 (m.b.map u8V) := by
  refine ecalls_of_ewp (args := [_, _, _, _]) Try.func7 rfl rfl rfl (by simp [Try.ntmps7]) (by kernel_rfl) ?_
  have hlen : bs.length = n := hb.len
  subst hlen
  obtain ⟨a0, cap, hp, hsl, hc⟩ := h.row
  have cc := msgClone_c f t a bs.length c bs H hb (by omega)
  unfold msgV at cc
  simp (disch := first | omega | assumption | decide | (simp <;> omega) | fail) [facts, hp]
  refine w_plan (P := Try.prog) (by simp [facts]) (opsP [0,1,2,3,5,6,7,8] (.both (opsP [4,9,10,11,12,13,14] .done) (opsP [9] (.both (opsP [4,10,11,12,13,14] .done) (opsP [10,4,11,12,13,14] .done))))) ?_ ?_
  · decide +kernel
  simp (disch := first | omega | assumption | decide | (simp <;> omega) | fail) [facts, hp]
  refine ⟨?_, ?_⟩
  all_goals
    refine cc.mono ?_
    rintro v H2 ⟨hle2, a', c', rfl, hout⟩
    have hp2 := hle2 _ _ hp
    simp (disch := first | omega | assumption | decide | (simp <;> omega) | fail) [facts, hp2]
    repeat' apply And.intro
    all_goals
      refine fresh_intro fun b5 hb5 => ?_
      rw [show splice (zeros [.int .i64 0, .int .i64 0, .slice none 0 0] 1) 0 [.int .i64 f, .int .i64 t, .slice a' bs.length c'] = MsgZ.cells ⟨f, t, bs, a', c'⟩ from rfl]
      have hp5 : p ≠ b5 := ne_of_fresh hb5 hp2
      try simp (disch := first | omega | assumption | decide | (simp <;> omega) | fail) [facts, hp2, upd_ne]
      refine h.added (m := ⟨f, t, bs, a', c'⟩) hle2 hout hn hms hb5 hp ?_
      rintro a1 cap1 H3 hp3 ⟨D', hDD, hnet, hoff⟩
      simp (disch := first | omega | assumption | decide | (simp <;> omega) | fail) [facts, hp3]
      exact ⟨_, Heap.le_refl _, D', hDD, ⟨f, t, bs, a', c'⟩, rfl, rfl, rfl, hnet, hoff⟩
end Go.Proofs.Ytodflnpiabhpeaa.GL
