/- Layer 20: BookFull, walked. -/
import Derived.Test.YthaggpicjpkjiaaBlF
namespace Go.Proofs.Ythaggpicjpkjiaa.GL
open Go Go.RowKit
open St (Txn txnL txnV zeroT RightT OkT Rec recV stepF fromL)
open Ca (S4 flat setV OkS CassOk newS)
set_option maxRecDepth 10000
set_option pp.deepTerms.threshold 8
set_option pp.maxSteps 3000
set_option linter.unusedSimpArgs false
set_option linter.unusedVariables false

def bflInv (H1 : Heap) (old p mb mm : Nat) (fv tv : Value) (T : List Tm) (s : St) : Prop :=
  ∃ (i : Nat) (A : Heap) (M : List Txn), i ≤ mm ∧ s.env 1 = .int .u8 old ∧ s.env 5 = .pointer (some ⟨p, 0, none⟩) ∧ s.env 6 = .int .i64 mm ∧ s.env 7 = .int .i64 i ∧ Own H1 (fun _ => none) s.heap A ∧ BookR A p fv tv mb M T ∧ M.Perm (fullL (min i 400)) ∧ BOk ⟨T, fullL (min i 400)⟩
set_option maxHeartbeats 4000000 in
theorem bookFull_c (n old : Nat) (H : Heap) (hn : n < 256) (ho : old < 256) :
    ECalls Try.prog 4 #[.int .u8 n, .int .u8 old] H fun v _ => v = .bool true := by
  refine ecalls_of_ewp (args := [_, _]) Try.func4 rfl rfl rfl (by simp [Try.ntmps4]) (by kernel_rfl) ?_
  obtain ⟨w, hw⟩ : ∃ w, w = n % 5 := ⟨_, rfl⟩
  have hwI : (n : Int) % 5 = (w : Int) := by omega
  have hw5 : w < 5 := by omega
  obtain ⟨mm, hmm⟩ : ∃ mm : Nat, mm = 398 + w := ⟨_, rfl⟩
  have hmI : (398 : Int) + (w : Int) = (mm : Int) := by omega
  have hb1 := fun H => bank_c 0 1 H (by decide) (by decide)
  simp (disch := first | omega | assumption | decide | (simp <;> omega) | fail) [facts, ]
  refine (known20_c H).mono ?_
  rintro v H1 ⟨rfl, hle1⟩
  simp (disch := first | omega | assumption | decide | (simp <;> omega) | fail) [facts, ]
  refine (hb1 H1).mono ?_
  rintro v H2 ⟨T, U, owU, hC, hT⟩
  have hT1 : T.length = 1 := by omega
  simp (disch := first | omega | assumption | decide | (simp <;> omega) | fail) [facts, ]
  refine (bnew_c v T 1 U H2 owU.le hC (by omega) (by omega) (by decide)).mono ?_
  rintro v2 H3 ⟨p, A, fv, tv, mb, rfl, ow, hB, _⟩
  have hok := bok_new hC.ok (by omega)
  have hTl : (T.map tm0).length = 1 := by rw [List.length_map]; exact hT1
  generalize T.map tm0 = T0 at hB hok hTl
  simp (disch := first | omega | assumption | decide | (simp <;> omega) | fail) [facts, hwI, hmI]
  refine w_loop (bflInv H2 old p mb mm fv tv T0) (fun st => mm - (intOf (st.env 7)).toNat) ?_ ?_
  · exact ⟨0, A, [], Nat.zero_le _, by simp, by simp, by simp, by simp, ow, hB, List.Perm.refl _, hok⟩
  clear ow hB hok
  rintro ⟨env, G⟩ ⟨i, A, M, hi, e1, e5, e6, e7, ow, hB, hp, hok⟩
  simp only at e1 e5 e6 e7 ow
  by_cases hlt : i < mm
  · have hltI : (i : Int) < (mm : Int) := by omega
    have hwr : IntKind.wrap .u32 ((i : Int) + 1) = (i : Int) + 1 := by rw [IntKind.wrap_u32]; omega
    have cd := bdo_c G A p fv tv mb M _ T0 ow.le hB hp hok (rb (i + 1)) (by simp [rb]) (by simp [rb]) (by simp [rb])
    have hok2 := doB_ok hok (rb (i + 1)) (by simp [rb])
    rw [full_do hTl i] at cd hok2
    simp only [recV, rb] at cd hok2
    have hcast : ((i + 1 : Nat) : Int) = (i : Int) + 1 := by omega
    rw [hcast] at cd
    simp (disch := first | omega | assumption | decide | (simp <;> omega) | fail) [facts, e5, e6, e7, hltI, hwr]
    refine cd.mono ?_
    rintro v G2 ⟨rfl, A2, M2, ow2, hB2, hp2⟩
    by_cases h4 : i < 400
    · have h4I : (i : Int) < 400 := by omega
      simp (disch := first | omega | assumption | decide | (simp <;> omega) | fail) [facts, e7, h4, h4I]
      exact ⟨_, Heap.le_refl _, ⟨i + 1, A2, M2, by omega, by simp [e1], by simp [e5], by simp [e6], by simp, ow.trans ow2, hB2, hp2, hok2⟩, by simp [intOf, e7]; omega⟩
    · have h4I : ¬ (i : Int) < 400 := by omega
      simp (disch := first | omega | assumption | decide | (simp <;> omega) | fail) [facts, e7, h4, h4I]
      exact ⟨_, Heap.le_refl _, ⟨i + 1, A2, M2, by omega, by simp [e1], by simp [e5], by simp [e6], by simp, ow.trans ow2, hB2, hp2, hok2⟩, by simp [intOf, e7]; omega⟩
  · have hlm : i = mm := by omega
    subst hlm
    have hltI : ¬ (i : Int) < (i : Int) := by omega
    have hwr : IntKind.wrap .u32 (old : Int) = (old : Int) := by rw [IntKind.wrap_u32]; omega
    have hwr2 : IntKind.wrap .u32 ((old : Int) + 1) = (old : Int) + 1 := by rw [IntKind.wrap_u32]; omega
    simp (disch := first | omega | assumption | decide | (simp <;> omega) | fail) [facts, e1, e6, e7, hltI, hwr, hwr2]
    refine fresh_intro fun b9 hb9 => ?_
    have r9 := upd_same G b9 (.row true 0 [.int .u16 0, .int .u32 ((old : Int) + 1)] 0)
    have ow9 := ow.grow (le_upd (.row true 0 [.int .u16 0, .int .u32 ((old : Int) + 1)] 0) hb9)
    have hb9A : A b9 = none := le_of_none ow.le hb9
    simp (disch := first | omega | assumption | decide | (simp <;> omega) | fail) [facts, upd_upd]
    generalize upd G b9 _ = G2 at *
    have ca := all_c G2 p fv tv mb M _ T0 (hB.le ow9.le) hp hok.ord (by rw [fullL_len]; omega)
    rw [fullL_len] at ca
    obtain ⟨f, hf⟩ : ∃ f, f = min i 400 := ⟨_, rfl⟩
    rw [← hf] at ca hp hok
    have hfI : min (i : Int) 400 = (f : Int) := by omega
    simp (disch := first | omega | assumption | decide | (simp <;> omega) | fail) [facts, e5]
    refine ca.mono ?_
    rintro v G3 ⟨RA, owA, lA⟩
    obtain ⟨aA, cA, rfl, _, _⟩ := lA.sl owA.le
    have ow10 := ow9.grow owA.all
    have r9' := owA.all _ _ r9
    obtain ⟨L', hap, hL'⟩ := full_ap hTl f (old + 1) (by omega) (by omega) (by omega) hok
    have cd := bdo_c G3 A p fv tv mb M _ T0 ow10.le hB hp hok (ra (old + 1)) (by simp [ra]) (by simp [ra]) (by simp [ra])
    have hok2 := doB_ok hok (ra (old + 1)) (by simp [ra])
    rw [hap] at cd hok2
    simp only at hok2
    have hcast : ((old + 1 : Nat) : Int) = (old : Int) + 1 := by omega
    simp only [recV, ra] at cd
    rw [hcast] at cd
    simp (disch := first | omega | assumption | decide | (simp <;> omega) | fail) [facts, e5, e6, hfI, r9']
    refine cd.mono ?_
    rintro v G4 ⟨rfl, A4, M4, ow4, hB4, hp4⟩
    have cd2 := bdo_c G4 A4 p fv tv mb M4 L' T0 (ow10.trans ow4).le hB4 hp4 hok2 (ra 9999) (by decide) (by decide) (by decide)
    rw [full_no hTl fun t ht => by have := hL' t ht; omega] at cd2
    simp only [recV, ra] at cd2
    simp (disch := first | omega | assumption | decide | (simp <;> omega) | fail) [facts, e5]
    refine cd2.mono ?_
    rintro v G5 ⟨rfl, A5, M5, ow5, hB5, hp5⟩
    simp (disch := first | omega | assumption | decide | (simp <;> omega) | fail) [facts, ]
    exact ⟨_, Heap.le_refl _⟩
end Go.Proofs.Ythaggpicjpkjiaa.GL
