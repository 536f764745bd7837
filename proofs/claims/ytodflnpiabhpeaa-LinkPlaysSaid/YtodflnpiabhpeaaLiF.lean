/- Layer 26: Double; the chapter's example. -/
import Derived.Test.YtodflnpiabhpeaaLiE
namespace Go.Proofs.Ytodflnpiabhpeaa.GL
open Go Go.RowKit
set_option maxRecDepth 10000
set_option pp.deepTerms.threshold 8
set_option pp.maxSteps 3000
set_option linter.unusedSimpArgs false
set_option linter.unusedVariables false

theorem netDouble_out (D H : Heap) (p : Nat) (ms : List MsgZ) (i : Int) (h : Net D H p ms) (hi : ¬ (0 ≤ i ∧ i < ms.length)) :
    ECalls Try.prog 10 #[.pointer (some ⟨p, 0, none⟩), .int .i64 i] H fun v H' => v = .bool false ∧ H' = H := by
  refine ecalls_of_ewp (args := [_, _]) Try.func10 rfl rfl rfl (by simp [Try.ntmps10]) (by kernel_rfl) ?_
  have ci := netIs_c D _ p ms i h
  simp only [hi, decide_false] at ci
  simp (disch := first | omega | assumption | decide | (simp <;> omega) | fail) [facts, ]
  refine ci.mono ?_
  rintro v H2 ⟨rfl, rfl⟩
  simp (disch := first | omega | assumption | decide | (simp <;> omega) | fail) [facts, ]

theorem netDouble_in (D H : Heap) (p : Nat) (ms : List MsgZ) (k : Nat) (m : MsgZ) (h : Net D H p ms) (hk : ms[k]? = some m) (hms : ms.length ≤ 1000000) :
    ECalls Try.prog 10 #[.pointer (some ⟨p, 0, none⟩), .int .i64 k] H fun v H' => v = .bool true ∧ ∃ D' m', Heap.le D D' ∧ m'.f = m.f ∧ m'.t = m.t ∧ m'.b = m.b ∧ Net D' H' p (ms ++ [m']) ∧ ∀ q o, H q = some o → SlA (dele D' q) m'.a m'.b.length 1 (m'.b.map u8V) := by
  refine ecalls_of_ewp (args := [_, _]) Try.func10 rfl rfl rfl (by simp [Try.ntmps10]) (by kernel_rfl) ?_
  obtain ⟨hlt, _⟩ := List.getElem?_eq_some_iff.1 hk
  have hltI : (k : Int) < (ms.length : Int) := by omega
  have hin : 0 ≤ (k : Int) ∧ (k : Int) < (ms.length : Int) := ⟨by omega, hltI⟩
  have ci := netIs_c D _ p ms k h
  simp only [hin, and_self, decide_true] at ci
  obtain ⟨a0, cap, hp, hsl, hc⟩ := h.row
  obtain ⟨q, o, rfl⟩ := hsl.lit (by omega)
  have rm : rdNU (H q) (o + k * 3) 3 = some [.int .i64 m.f, .int .i64 m.t, .slice m.a m.b.length m.c] := by
    have := hsl.part hlt (cellsM_at hk) (j := 0) (r := 3) (by decide) (by decide)
    simpa [MsgZ.cells] using this
  obtain ⟨hd, _, hd3⟩ := h.data m (List.mem_of_getElem? hk)
  have cc := msgClone_c m.f m.t m.a m.b.length m.c m.b H (.inl (hd.le h.le)) (by omega)
  unfold msgV at cc
  simp (disch := first | omega | assumption | decide | (simp <;> omega) | fail) [facts, ]
  refine ci.mono ?_
  rintro v H2 ⟨rfl, rfl⟩
  simp (disch := first | omega | assumption | decide | (simp <;> omega) | fail) [facts, ]
  refine w_plan (P := Try.prog) (by simp [facts]) (opsP [0,1,2,3,5,6,7,9] (.both (opsP [4,8,10,11,12,13,14,15,16,17] .done) (opsP [8,10] (.both (opsP [4,11,12,13,14,15,16,17] .done) (opsP [11] (.both (opsP [4,12,13,14,15,16,17] .done) (opsP [12] (.both (opsP [4,13,14,15,16,17] .done) (opsP [13,4,14,15,16,17] .done))))))))) ?_ ?_
  · decide +kernel
  simp (disch := first | omega | assumption | decide | (simp <;> omega) | fail) [facts, hp, hltI, rm]
  repeat' apply And.intro
  all_goals
    refine cc.mono ?_
    rintro v H3 ⟨hle3, a', c', rfl, hout⟩
    have hp3 := hle3 _ _ hp
    simp (disch := first | omega | assumption | decide | (simp <;> omega) | fail) [facts, hp3]
    repeat' apply And.intro
    all_goals
      refine fresh_intro fun b5 hb5 => ?_
      rw [show splice (zeros [.int .i64 0, .int .i64 0, .slice none 0 0] 1) 0 [.int .i64 m.f, .int .i64 m.t, .slice a' m.b.length c'] = MsgZ.cells ⟨m.f, m.t, m.b, a', c'⟩ from rfl]
      have hp5 : p ≠ b5 := ne_of_fresh hb5 hp3
      try simp (disch := first | omega | assumption | decide | (simp <;> omega) | fail) [facts, hp3, upd_ne]
      refine h.added (m := ⟨m.f, m.t, m.b, a', c'⟩) hle3 hout hd3 hms hb5 hp ?_
      rintro a1 cap1 H4 hp4 ⟨D', hDD, hnet, hoff⟩
      simp (disch := first | omega | assumption | decide | (simp <;> omega) | fail) [facts, hp4]
      exact ⟨_, Heap.le_refl _, D', hDD, ⟨m.f, m.t, m.b, a', c'⟩, rfl, rfl, rfl, hnet, hoff⟩
end Go.Proofs.Ytodflnpiabhpeaa.GL
