/- Layer 26: All. -/
import Derived.Test.YtodflnpiabhpeaaLiG
import Derived.Test.YtodflnpiabhpeaaGlY
namespace Go.Proofs.Ytodflnpiabhpeaa.GL
open Go Go.RowKit
set_option maxRecDepth 10000
set_option pp.deepTerms.threshold 8
set_option pp.maxSteps 3000
set_option linter.unusedSimpArgs false
set_option linter.unusedVariables false

theorem TailA.max {D H : Heap} {v : Value} {s n : Nat} {cs : List Value} (h : TailA D H v s n cs) : TailA (deleV H v) H v s n cs := by
  rcases h with h | ⟨q, o, cap, tail, room, rfl, hD, hr, hlen, hc, hf⟩
  · exact .inl h
  · exact .inr ⟨q, o, cap, tail, room, rfl, dele_same _ _, hr, hlen, hc, hf⟩
theorem TailA.leMax {D H : Heap} {v : Value} {s n : Nat} {cs : List Value} (h : TailA D H v s n cs) (hl : Heap.le D H) : Heap.le D (deleV H v) := by
  rcases h with ⟨rfl, _, _⟩ | ⟨q, o, cap, tail, room, rfl, hD, hr, hlen, hc, hf⟩
  · exact hl
  · exact le_deleN hl hD
def MsgZ.key (m : MsgZ) : Int × Int × List UInt8 := (m.f, m.t, m.b)

def allInv (H : Heap) (a : Option Addr) (n c : Nat) (ms : List MsgZ) (s : St) : Prop :=
  ∃ (j : Nat) (D : Heap) (ns : List MsgZ), j ≤ n ∧ s.env 9 = .slice a n c ∧ s.env 10 = .int .i64 n ∧ s.env 11 = .int .i64 j ∧ Heap.le H D ∧ Heap.le D s.heap ∧ TailA D s.heap (s.env 3) 3 j (cellsM ns) ∧ ns.map MsgZ.key = (ms.take j).map MsgZ.key ∧ ∀ m ∈ ns, SlA D m.a m.b.length 1 (m.b.map u8V)

set_option maxHeartbeats 1000000 in
theorem netAll_c (D0 H : Heap) (p : Nat) (ms : List MsgZ) (h : Net D0 H p ms) (hms : ms.length ≤ 1000000) :
    ECalls Try.prog 11 #[.pointer (some ⟨p, 0, none⟩)] H fun v H' => Heap.le H H' ∧ ∃ a c ns, v = .slice a ms.length c ∧ SlA H' a ms.length 3 (cellsM ns) ∧ ns.map MsgZ.key = ms.map MsgZ.key ∧ ∀ m ∈ ns, SlA H' m.a m.b.length 1 (m.b.map u8V) := by
  refine ecalls_of_ewp (args := [_]) Try.func11 rfl rfl rfl (by simp [Try.ntmps11]) (by kernel_rfl) ?_
  obtain ⟨a, c, hp, hsl, hc⟩ := h.row
  simp (disch := first | omega | assumption | decide | (simp <;> omega) | fail) [facts, hp]
  refine w_loop (allInv H a ms.length c ms) (fun s => ms.length - (intOf (s.env 11)).toNat) ?_ ?_
  · exact ⟨0, H, [], Nat.zero_le _, by simp, by simp, by simp, Heap.le_refl _, Heap.le_refl _, .inl ⟨by simp, rfl, rfl⟩, by simp, fun m hm => (by cases hm)⟩
  rintro ⟨env, G⟩ ⟨j, D, ns, hj, e9, e10, e11, hHD, hDG, hta, hkey, hdat⟩
  simp only at e9 e10 e11 hDG hta
  generalize e3 : env 3 = sv at hta
  by_cases hlt : j < ms.length
  · have hltI : (j : Int) < (ms.length : Int) := by omega
    obtain ⟨m, hm⟩ : ∃ m, ms[j]? = some m := ⟨_, List.getElem?_eq_getElem hlt⟩
    obtain ⟨b, o, rfl⟩ := hsl.lit (by omega)
    have hG := hsl.le (Heap.le_trans hHD hDG)
    have rm : rdNU (G b) (o + j * 3) 3 = some [.int .i64 m.f, .int .i64 m.t, .slice m.a m.b.length m.c] := by
      have := hG.part hlt (cellsM_at hm) (j := 0) (r := 3) (by decide) (by decide)
      simpa [MsgZ.cells] using this
    obtain ⟨hd, _, hd3⟩ := h.data m (List.mem_of_getElem? hm)
    simp (disch := first | omega | assumption | decide | (simp <;> omega) | fail) [facts, e9, e10, e11, hltI, rm]
    refine fresh_intro fun b5 hb5 => ?_
    have hG1 := le_upd (.row true 0 [.int .i64 m.f, .int .i64 m.t, .slice m.a m.b.length m.c] 0) hb5
    have l5 := upd_same G b5 (.row true 0 [.int .i64 m.f, .int .i64 m.t, .slice m.a m.b.length m.c] 0)
    simp (disch := first | omega | assumption | decide | (simp <;> omega) | fail) [facts, upd_upd]
    generalize upd G b5 (.row true 0 [.int .i64 m.f, .int .i64 m.t, .slice m.a m.b.length m.c] 0) = G1 at *
    have cc := msgClone_c m.f m.t m.a m.b.length m.c m.b G1 (.inl (hd.le (Heap.le_trans (Heap.le_trans h.le (Heap.le_trans hHD hDG)) hG1))) (by omega)
    unfold msgV at cc
    simp (disch := first | omega | assumption | decide | (simp <;> omega) | fail) [facts, e3, l5]
    refine cc.mono ?_
    rintro v G2 ⟨hle2, a', c', rfl, hout⟩
    have hta2 := (hta.grow hG1).grow hle2
    simp (disch := first | omega | assumption | decide | (simp <;> omega) | fail) [facts, e3]
    refine fresh_intro fun b6 hb6 => ?_
    rw [show splice (zeros [.int .i64 0, .int .i64 0, .slice none 0 0] 1) 0 [.int .i64 m.f, .int .i64 m.t, .slice a' m.b.length c'] = MsgZ.cells ⟨m.f, m.t, m.b, a', c'⟩ from rfl]
    simp (disch := first | omega | assumption | decide | (simp <;> omega) | fail) [facts, e3]
    have hone : (MsgZ.cells ⟨m.f, m.t, m.b, a', c'⟩).all (·.oneCell') = true := by simpa [cellsM] using cellsM_one [⟨m.f, m.t, m.b, a', c'⟩]
    have hDM : Heap.le D (deleV G2 sv) := hta2.leMax (Heap.le_trans (Heap.le_trans hDG hG1) hle2)
    have hta1 := hta.grow hG1
    have hnew : SlA (deleV G2 sv) a' m.b.length 1 (m.b.map u8V) := by
      obtain ⟨a1, c1, e1, sl1, _⟩ := out_part (D := deleV G2 sv) hout fun b o hb0 hb2 => by
        rcases hta1 with ⟨rfl, _, _⟩ | ⟨q, oq, cap, tail, room, rfl, _, hr, _, _, _⟩
        · exact hb2
        · show dele G2 q b = some o
          rw [dele_ne _ (ne_of_fresh hb0 hr).symm]; exact hb2
      simp only [Value.slice.injEq] at e1
      rw [e1.1]; exact sl1
    refine TailA.app (e := 29) (s := 3) (nbs := 40) (z := .agg #[.int .i64 0, .int .i64 0, .slice none 0 0]) (D := deleV G2 sv) (m := 1) (ys := MsgZ.cells ⟨m.f, m.t, m.b, a', c'⟩) (by simp [facts]) (by simp [facts]) (by simp [facts]) (by simp [facts]) rfl (by decide) (hta2.max.grow (le_upd _ hb6)) (Heap.le_trans (deleV_le _ _) (le_upd _ hb6))
      (srcOne (s := 3) (b := b6) (e1 := 29) (z := .agg #[.int .i64 0, .int .i64 0, .slice none 0 0]) (by simp [facts]) (by simp [facts]) (by simp [facts]) rfl) rfl hone (by omega) ?_
    intro v' G4 _ hle4 hta4
    simp (disch := first | omega | assumption | decide | (simp <;> omega) | fail) [facts, e9, e10, e11]
    refine ⟨_, Heap.le_refl _, ⟨j + 1, deleV G2 sv, ns ++ [⟨m.f, m.t, m.b, a', c'⟩], by omega, by simp [e9], by simp [e10], by simp, Heap.le_trans hHD hDM, hle4, ?_, ?_, ?_⟩, by simp [intOf, e11]; omega⟩
    · rw [cellsM_app]; simpa [cellsM] using hta4
    · rw [List.map_append, hkey, List.take_add_one, hm]; simp [MsgZ.key]
    · intro m' hm'
      rcases List.mem_append.1 hm' with hm' | hm'
      · exact (hdat m' hm').le hDM
      · rw [List.mem_singleton] at hm'; subst hm'; exact hnew
  · have hj' : j = ms.length := by omega
    subst hj'
    obtain ⟨a1, c1, rfl, sl1, _⟩ := hta.sl
    simp (disch := first | omega | assumption | decide | (simp <;> omega) | fail) [facts, e9, e10, e11, e3]
    exact ⟨_, Heap.le_refl _, Heap.le_trans hHD hDG, ns, sl1, by simpa using hkey, fun m hm => (hdat m hm).le hDG⟩
end Go.Proofs.Ytodflnpiabhpeaa.GL
