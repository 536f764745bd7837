/- Layer 26: the walk of LinkPlays. -/
import Derived.Test.YtodflnpiabhpeaaLiJ
namespace Go.Proofs.Ytodflnpiabhpeaa.GL
open Go Go.RowKit
set_option maxRecDepth 10000
set_option pp.deepTerms.threshold 8
set_option pp.maxSteps 3000
set_option linter.unusedSimpArgs false
set_option linter.unusedVariables false

def plInv (H0 : Heap) (a : Option Addr) (n c p : Nat) (s : St) : Prop :=
  ∃ (i : Nat) (D : Heap) (ms : List MsgZ) (ws : List ActZ), i ≤ n ∧ s.env 0 = .slice a n c ∧ s.env 3 = .pointer (some ⟨p, 0, none⟩) ∧ s.env 5 = .int .i64 i ∧ Both H0 D s.heap p ms (s.env 4) ws ∧ ws.map ActZ.key = ms.map MsgZ.key ∧ ws.length ≤ i ∧ ∀ x ∈ ws, ByA H0 x.a x.b.length x.b

def cmpInv (G : Heap) (a : Option Addr) (n c p i : Nat) (wv all : Value) (len : Nat) (s : St) : Prop :=
  ∃ k : Nat, s.heap = G ∧ s.env 0 = .slice a n c ∧ s.env 3 = .pointer (some ⟨p, 0, none⟩) ∧ s.env 4 = wv ∧ s.env 5 = .int .i64 i ∧ s.env 11 = all ∧ s.env 12 = .int .i64 k ∧ k ≤ len

set_option maxHeartbeats 4000000 in
theorem linkPlays_c (a : Option Addr) (n c : Nat) (L : List ActZ) (H : Heap) (h : SlA H a n 5 (rowsC ActZ.cells L)) (hL : ∀ e ∈ L, ByA H e.a e.b.length e.b) (hw : ∀ e ∈ L, e.w < 256) :
    ECalls Try.prog 4 #[.slice a n c] H fun r _ => r = .bool true := by
  refine ecalls_of_ewp (args := [_]) Try.func4 rfl rfl rfl (by simp [Try.ntmps4]) (by kernel_rfl) ?_
  have hlen : L.length = n := h.els act5 (by decide)
  simp (disch := first | omega | assumption | decide | (simp <;> omega) | fail) [facts, ]
  refine (known_c _).mono ?_
  rintro r H1 ⟨rfl, hle1⟩
  by_cases hn : (80 : Int) < (n : Int)
  · simp (disch := first | omega | assumption | decide | (simp <;> omega) | fail) [facts, hn]
    exact ⟨_, Heap.le_refl _⟩
  simp (disch := first | omega | assumption | decide | (simp <;> omega) | fail) [facts, hn]
  refine (netNew_c _).mono ?_
  rintro r H2 ⟨p, rfl, h2⟩
  replace h := h.le hle1
  replace hL : ∀ e ∈ L, ByA H1 e.a e.b.length e.b := fun e he => (hL e he).le hle1
  simp (disch := first | omega | assumption | decide | (simp <;> omega) | fail) [facts, ]
  refine w_loop (plInv H1 a n c p) (fun s => n - (intOf (s.env 5)).toNat) ?_ ?_
  · exact ⟨0, H1, [], [], Nat.zero_le _, by simp, by simp, by simp, by simpa using Both.new h2, rfl, Nat.zero_le _, fun x hx => (by cases hx)⟩
  clear h2 hle1
  rintro ⟨env, G⟩ ⟨i, D, ms, ws, hi, e0, e3, e5, hb, hkey, hwl, hws⟩
  simp only at e0 e3 e5 hb
  generalize e4 : env 4 = wv at hb
  by_cases hlt : i < n
  · have hltI : (i : Int) < (n : Int) := by omega
    obtain ⟨x, hx⟩ : ∃ x, L[i]? = some x := ⟨_, List.getElem?_eq_getElem (by omega)⟩
    have hxm := List.mem_of_getElem? hx
    have hxb := hL x hxm
    have hxw := hw x hxm
    obtain ⟨b, o, rfl⟩ := h.lit (by omega)
    have rx : rdNU (G b) (o + i * 5) 5 = some x.cells := by
      have := (h.le hb.le).el act5 hx (j := 0) (r := 5) (by decide) (by decide)
      exact this
    have rx' := rx
    unfold ActZ.cells at rx'
    simp (disch := first | omega | assumption | decide | (simp <;> omega) | fail) [facts, e0, e3, e4, e5, hltI, rx']
    refine fresh_intro fun b6 hb6 => ?_
    have hb2 := hb.keep hb6 (.row true 0 [.int .u8 x.w, .int .i64 x.f, .int .i64 x.t, .int .i64 x.n, .slice x.a x.b.length x.c] 0)
    have l6 := upd_same D b6 (.row true 0 [.int .u8 x.w, .int .i64 x.f, .int .i64 x.t, .int .i64 x.n, .slice x.a x.b.length x.c] 0)
    simp (disch := first | omega | assumption | decide | (simp <;> omega) | fail) [facts, upd_upd]
    generalize upd D b6 (.row true 0 [.int .u8 x.w, .int .i64 x.f, .int .i64 x.t, .int .i64 x.n, .slice x.a x.b.length x.c] 0) = D2 at *
    generalize upd G b6 (.row true 0 [.int .u8 x.w, .int .i64 x.f, .int .i64 x.t, .int .i64 x.n, .slice x.a x.b.length x.c] 0) = G2 at *
    have m6 := hb2.net.le _ _ l6
    obtain ⟨aw, cw, rfl, hsw, hcw⟩ := hb2.wsl
    by_cases h60 : (60 : Int) < (x.b.length : Int)
    · simp (disch := first | omega | assumption | decide | (simp <;> omega) | fail) [facts, e0, e3, e4, e5, m6, h60]
      exact ⟨_, Heap.le_refl _⟩
    simp (disch := first | omega | assumption | decide | (simp <;> omega) | fail) [facts, e0, e3, e4, e5, m6, h60]
    have hw80 : ws.length ≤ 80 := by omega
    clear hb rx rx' hb6
    obtain ⟨I1, hI1⟩ : ∃ I : St → Prop, I = (fun s => s.heap = G2 ∧ s.env 0 = .slice (some ⟨b, o, none⟩) n c ∧ s.env 3 = .pointer (some ⟨p, 0, none⟩) ∧ s.env 4 = .slice aw ws.length cw ∧ s.env 5 = .int .i64 i ∧ s.env 6 = .pointer (some ⟨b6, 0, none⟩) ∧ ∃ z, s.env 7 = .int .i64 z) := ⟨_, rfl⟩
    refine gd_cut I1 ?_ ?_
    · by_cases h4 : (0 : Int) < (i : Int) % 4
      · by_cases hw0 : 0 < ws.length
        · simp (disch := first | omega | assumption | decide | (simp <;> omega) | fail) [facts, e0, e3, e4, e5, m6, h4, hw0]
          subst hI1
          simp [e0, e3, e4, e5]
        · simp (disch := first | omega | assumption | decide | (simp <;> omega) | fail) [facts, e0, e3, e4, e5, m6, h4, hw0]
          subst hI1
          simp [e0, e3, e4, e5]
      · simp (disch := first | omega | assumption | decide | (simp <;> omega) | fail) [facts, e0, e3, e4, e5, m6, h4]
        subst hI1
        simp [e0, e3, e4, e5]
    subst hI1
    clear e0 e3 e4 e5
    rintro ⟨env, G⟩ ⟨rfl, e0, e3, e4, e5, e6, z, e7⟩
    simp only at e0 e3 e4 e5 e6 e7 hb2 hsw m6
    rw [w_seq]
    obtain ⟨I2, hI2⟩ : ∃ I : St → Prop, I = (fun s => s.heap = G ∧ s.env 0 = .slice (some ⟨b, o, none⟩) n c ∧ s.env 3 = .pointer (some ⟨p, 0, none⟩) ∧ s.env 4 = .slice aw ws.length cw ∧ s.env 5 = .int .i64 i ∧ s.env 6 = .pointer (some ⟨b6, 0, none⟩) ∧ s.env 7 = .int .i64 z ∧ s.env 8 = .bool (decide (0 ≤ z ∧ z < (ws.length : Int)))) := ⟨_, rfl⟩
    refine w_cut I2 ?_ ?_
    · by_cases h0 : 0 ≤ z
      · simp (disch := first | omega | assumption | decide | (simp <;> omega) | fail) [facts, e0, e3, e4, e5, e6, e7, h0]
        subst hI2
        simp [e0, e3, e4, e5, e6, e7, h0]
      · simp (disch := first | omega | assumption | decide | (simp <;> omega) | fail) [facts, e0, e3, e4, e5, e6, e7, h0]
        subst hI2
        simp [e0, e3, e4, e5, e6, e7, h0]
    subst hI2
    clear e0 e3 e4 e5 e6 e7
    rintro ⟨env, G⟩ ⟨rfl, e0, e3, e4, e5, e6, e7, e8⟩
    simp only at e0 e3 e4 e5 e6 e7 e8 hb2 hsw m6
    rw [w_seq, w_seq]
    obtain ⟨I3, hI3⟩ : ∃ I : St → Prop, I = (fun s => s.heap = G ∧ s.env 0 = .slice (some ⟨b, o, none⟩) n c ∧ s.env 3 = .pointer (some ⟨p, 0, none⟩) ∧ s.env 4 = .slice aw ws.length cw ∧ s.env 5 = .int .i64 i ∧ s.env 6 = .pointer (some ⟨b6, 0, none⟩) ∧ s.env 7 = .int .i64 z ∧ s.env 8 = .bool (decide (0 ≤ z ∧ z < (ws.length : Int))) ∧ s.env 61 = .int .u8 ((x.w : Int) % 6)) := ⟨_, rfl⟩
    refine w_cut I3 ?_ ?_
    · simp (disch := first | omega | assumption | decide | (simp <;> omega) | fail) [facts, e0, e3, e4, e5, e6, e7, e8, m6]
      subst hI3
      simp [e0, e3, e4, e5, e6, e7, e8]
    subst hI3
    clear e0 e3 e4 e5 e6 e7 e8
    rintro ⟨env, G⟩ ⟨rfl, e0, e3, e4, e5, e6, e7, e8, e61⟩
    simp only at e0 e3 e4 e5 e6 e7 e8 e61 hb2 hsw m6
    obtain ⟨I4, hI4⟩ : ∃ I : St → Prop, I = (fun s => ∃ D ms ws, s.env 0 = .slice (some ⟨b, o, none⟩) n c ∧ s.env 3 = .pointer (some ⟨p, 0, none⟩) ∧ s.env 5 = .int .i64 i ∧ Both H1 D s.heap p ms (s.env 4) ws ∧ ws.map ActZ.key = ms.map MsgZ.key ∧ ws.length ≤ i + 1 ∧ ∀ x ∈ ws, ByA H1 x.a x.b.length x.b) := ⟨_, rfl⟩
    refine w_cut I4 ?_ ?_
    · have hmsl : ms.length = ws.length := by have := congrArg List.length hkey; simpa using this.symm
      by_cases hT : (x.w : Int) % 6 = 3 ∨ (x.w : Int) % 6 = 4
      · by_cases hin : 0 ≤ z ∧ z < (ws.length : Int)
        · obtain ⟨k, rfl⟩ : ∃ k : Nat, z = k := ⟨z.toNat, by omega⟩
          have hk : k < ws.length := by omega
          have hkI : (k : Int) < (ws.length : Int) := by omega
          obtain ⟨y, hy⟩ : ∃ y, ws[k]? = some y := ⟨_, List.getElem?_eq_getElem hk⟩
          obtain ⟨m, hm⟩ : ∃ m, ms[k]? = some m := ⟨_, List.getElem?_eq_getElem (by omega)⟩
          have hym : y.key = m.key := by
            have := congrArg (·[k]?) hkey
            simpa [hy, hm] using this
          simp only [ActZ.key, MsgZ.key, Prod.mk.injEq] at hym
          obtain ⟨q1, q2, q3⟩ := hym
          simp only [hin, and_self, decide_true] at e8
          have ct := netTake_in D2 G p ms k m hb2.net hm (by omega)
          have hmb := (hb2.net.data m (List.mem_of_getElem? hm)).1
          have hyb := hws y (List.mem_of_getElem? hy)
          rcases hT with hT | hT
          all_goals
            simp (disch := first | omega | assumption | decide | (simp <;> omega) | fail) [facts, e0, e3, e4, e5, e6, e7, e8, e61, hT]
            refine ct.mono ?_
            rintro v G3 ⟨rfl, hnet3⟩
            unfold msgV
            have hb3 := hb2.took hnet3 (fun m hm => List.mem_of_mem_eraseIdx hm)
            simp (disch := first | omega | assumption | decide | (simp <;> omega) | fail) [facts, e0, e3, e4, e5, e6, e7, e8, e61, hT]
            refine fresh_intro fun b9 hb9 => ?_
            have hb4 := hb3.grow (le_upd (.row true 0 [.int .i64 m.f, .int .i64 m.t, .slice m.a m.b.length m.c] 0) hb9)
            have l9 := upd_same G3 b9 (.row true 0 [.int .i64 m.f, .int .i64 m.t, .slice m.a m.b.length m.c] 0)
            simp (disch := first | omega | assumption | decide | (simp <;> omega) | fail) [facts, e0, e3, e4, e5, e6, e7, e8, e61, hT, upd_upd]
            generalize upd G3 b9 (.row true 0 [.int .i64 m.f, .int .i64 m.t, .slice m.a m.b.length m.c] 0) = G4 at *
            obtain ⟨hs4, hc4⟩ := hb4.wat
            obtain ⟨bw, ow, rfl⟩ := hs4.lit (by omega)
            have r1 := hs4.el1 act5 hy (j := 1) (by decide)
            have r2 := hs4.el1 act5 hy (j := 2) (by decide)
            have r4 := hs4.el1 act5 hy (j := 4) (by decide)
            simp only [ActZ.cells, List.getElem?_cons_succ, List.getElem?_cons_zero] at r1 r2 r4
            rw [q1] at r1
            rw [q2] at r2
            rw [q3] at r4
            have hmb4 := hmb.le hb4.net.le
            have hyb4 := hyb.le hb4.le
            rw [q3] at hyb4
            refine w_plan (P := Try.prog) (by simp [facts]) (opsP [0,1,2,3,4,5,6,7,8,9,10,11,12,13,14,15,16,17,18,19,20,21,22,23,24,25,26,27,28,29,30,31,32,33,34,35,36,37,38,39,40,41,42,43,44,45,46,47,48,49,50,51,52,53,54,55,56,57] .done) ?_ ?_
            · decide +kernel
            simp (disch := first | omega | assumption | decide | (simp <;> omega) | fail) [facts, e0, e3, e4, e5, e6, e7, e8, l9, hkI, r1, r2, r4, conv_bytes (P := Try.prog) (el := 5) (by simp [facts]) hmb4, conv_by (P := Try.prog) (el := 5) (by simp [facts]) hyb4, b_neqT]
            refine w_plan (P := Try.prog) (by simp [facts]) (opsP [0,1,2,3,4,5,6,7,8,9] .done) ?_ ?_
            · decide +kernel
            simp (disch := first | omega | assumption | decide | (simp <;> omega) | fail) [facts, e0, e3, e4, e5, e6, e7, e8, hkI]
            refine hb4.cutOut hk (by omega) fun v' H' ⟨D', hb5⟩ => ?_
            simp (disch := first | omega | assumption | decide | (simp <;> omega) | fail) [facts, ]
            subst hI4
            refine ⟨D', ms.eraseIdx k, ws.eraseIdx k, by simp [e0], by simp [e3], by simp [e5], by simpa using hb5, ?_, ?_, fun x hx => hws x (List.mem_of_mem_eraseIdx hx)⟩
            · rw [List.eraseIdx_eq_take_drop_succ, List.eraseIdx_eq_take_drop_succ, List.map_append, List.map_append, List.map_take, List.map_drop, List.map_take, List.map_drop, hkey]
            · rw [List.length_eraseIdx, if_pos hk]; omega
        · simp only [hin, decide_false] at e8
          have ct := netTake_out D2 G p ms z hb2.net (by rw [hmsl]; exact hin)
          rcases hT with hT | hT
          all_goals
            simp (disch := first | omega | assumption | decide | (simp <;> omega) | fail) [facts, e0, e3, e4, e5, e6, e7, e8, e61, hT]
            refine ct.mono ?_
            rintro v G3 ⟨rfl, hnet3⟩
            unfold msgV
            have hb3 := hb2.took hnet3 (fun m hm => hm)
            simp (disch := first | omega | assumption | decide | (simp <;> omega) | fail) [facts, e0, e3, e4, e5, e6, e7, e8, e61, hT]
            refine fresh_intro fun b9 hb9 => ?_
            have hb4 := hb3.grow (le_upd (.row true 0 [.int .i64 0, .int .i64 0, .slice none 0 0] 0) hb9)
            have l9 := upd_same G3 b9 (.row true 0 [.int .i64 0, .int .i64 0, .slice none 0 0] 0)
            simp (disch := first | omega | assumption | decide | (simp <;> omega) | fail) [facts, e0, e3, e4, e5, e6, e7, e8, e61, hT, upd_upd]
            generalize upd G3 b9 (.row true 0 [.int .i64 0, .int .i64 0, .slice none 0 0] 0) = G4 at *
            refine w_plan (P := Try.prog) (by simp [facts]) (opsP [0,1,2,3,4,5,6,7,8,9,10,11,12,13,14,15,16,17,18,19,20,21,22,23,24,25,26,27,28,29,30,31,32,33,34,35,36,37,38,39,40,41,42,43,44,45,46,47,48,49,50,51,52,53,54,55,56,57] .done) ?_ ?_
            · decide +kernel
            simp (disch := first | omega | assumption | decide | (simp <;> omega) | fail) [facts, e0, e3, e4, e5, e6, e7, e8, l9]
            subst hI4
            exact ⟨D2, ms, ws, by simp [e0], by simp [e3], by simp [e5], by simpa [e4] using hb4, hkey, by omega, hws⟩
      · have hT3 : ¬ (x.w : Int) % 6 = 3 := fun h => hT (.inl h)
        have hT4 : ¬ (x.w : Int) % 6 = 4 := fun h => hT (.inr h)
        by_cases hT5 : (x.w : Int) % 6 = 5
        · by_cases hin : 0 ≤ z ∧ z < (ws.length : Int)
          · obtain ⟨k, rfl⟩ : ∃ k : Nat, z = k := ⟨z.toNat, by omega⟩
            have hk : k < ws.length := by omega
            have hkI : (k : Int) < (ws.length : Int) := by omega
            obtain ⟨y, hy⟩ : ∃ y, ws[k]? = some y := ⟨_, List.getElem?_eq_getElem hk⟩
            obtain ⟨m, hm⟩ : ∃ m, ms[k]? = some m := ⟨_, List.getElem?_eq_getElem (by omega)⟩
            have hym : y.key = m.key := by
              have := congrArg (·[k]?) hkey
              simpa [hy, hm] using this
            simp only [hin, and_self, decide_true] at e8
            simp (disch := first | omega | assumption | decide | (simp <;> omega) | fail) [facts, e0, e3, e4, e5, e6, e7, e8, e61, hT5]
            refine (netDouble_in D2 G p ms k m hb2.net hm (by omega)).mono ?_
            rintro v G3 ⟨rfl, D3, m', hD3, f1, f2, f3, hnet3, hoff⟩
            have hb3 := hb2.up hD3 hnet3 (fun m0 hm0 => by
              rcases List.mem_append.1 hm0 with hm0 | hm0
              · exact .inl hm0
              · rw [List.mem_singleton] at hm0; subst hm0
                exact .inr ⟨(hnet3.data m0 (by simp)).1, hoff⟩)
            obtain ⟨hs4, hc4⟩ := hb3.wat
            obtain ⟨bw, ow, rfl⟩ := hs4.lit (by omega)
            have ry := hs4.el act5 hy (j := 0) (r := 5) (by decide) (by decide)
            simp only [ActZ.cells, List.drop_zero, List.take_succ_cons, List.take_zero, Nat.add_zero] at ry
            simp (disch := first | omega | assumption | decide | (simp <;> omega) | fail) [facts, e0, e3, e4, e5, e6, e7, e8, e61, hT5, hkI, ry]
            refine fresh_intro fun b9 hb9 => ?_
            rw [show splice (zeros [.int .u8 0, .int .i64 0, .int .i64 0, .int .i64 0, .slice none 0 0] 1) 0 [.int .u8 y.w, .int .i64 y.f, .int .i64 y.t, .int .i64 y.n, .slice y.a y.b.length y.c] = y.cells from rfl]
            simp (disch := first | omega | assumption | decide | (simp <;> omega) | fail) [facts, e0, e3, e4, e5, e6, e7, e8, e61]
            refine hb3.addOne (by omega) y hb9 fun v' H' ⟨D', hb5⟩ => ?_
            simp (disch := first | omega | assumption | decide | (simp <;> omega) | fail) [facts, ]
            subst hI4
            refine ⟨D', ms ++ [m'], ws ++ [y], by simp [e0], by simp [e3], by simp [e5], by simpa using hb5, ?_, ?_, fun x hx => ?_⟩
            · rw [List.map_append, List.map_append, hkey]
              congr 1
              simp only [List.map_cons, List.map_nil, hym]
              simp [MsgZ.key, f1, f2, f3]
            · simp; omega
            · rcases List.mem_append.1 hx with hx | hx
              · exact hws x hx
              · rw [List.mem_singleton] at hx; subst hx; exact hws _ (List.mem_of_getElem? hy)
          · simp only [hin, decide_false] at e8
            simp (disch := first | omega | assumption | decide | (simp <;> omega) | fail) [facts, e0, e3, e4, e5, e6, e7, e8, e61, hT5]
            refine (netDouble_out D2 G p ms z hb2.net (by rw [hmsl]; exact hin)).mono ?_
            rintro v G3 ⟨rfl, rfl⟩
            simp (disch := first | omega | assumption | decide | (simp <;> omega) | fail) [facts, e0, e3, e4, e5, e6, e7, e8, e61, hT5]
            subst hI4
            exact ⟨D2, ms, ws, by simp [e0], by simp [e3], by simp [e5], by simpa [e4] using hb2, hkey, by omega, hws⟩
        · simp (disch := first | omega | assumption | decide | (simp <;> omega) | fail) [facts, e0, e3, e4, e5, e6, e7, e8, e61, hT3, hT4, hT5, m6]
          refine (netPut_c D2 G p ms hb2.net x.f x.t x.a x.b.length x.c x.b (hxb.le hb2.le) (by omega) (by omega)).mono ?_
          rintro v G3 ⟨D3, m', hD3, f1, f2, f3, hnet3, hoff⟩
          have hb3 := hb2.up hD3 hnet3 (fun m0 hm0 => by
            rcases List.mem_append.1 hm0 with hm0 | hm0
            · exact .inl hm0
            · rw [List.mem_singleton] at hm0; subst hm0
              exact .inr ⟨(hnet3.data m0 (by simp)).1, hoff⟩)
          have n6 := hnet3.le _ _ (hD3 _ _ l6)
          simp (disch := first | omega | assumption | decide | (simp <;> omega) | fail) [facts, e0, e3, e4, e5, e6, e7, e8, e61, n6]
          refine fresh_intro fun b9 hb9 => ?_
          rw [show splice (zeros [.int .u8 0, .int .i64 0, .int .i64 0, .int .i64 0, .slice none 0 0] 1) 0 [.int .u8 x.w, .int .i64 x.f, .int .i64 x.t, .int .i64 x.n, .slice x.a x.b.length x.c] = x.cells from rfl]
          simp (disch := first | omega | assumption | decide | (simp <;> omega) | fail) [facts, e0, e3, e4, e5, e6, e7, e8, e61]
          refine hb3.addOne (by omega) x hb9 fun v' H' ⟨D', hb5⟩ => ?_
          simp (disch := first | omega | assumption | decide | (simp <;> omega) | fail) [facts, ]
          subst hI4
          refine ⟨D', ms ++ [m'], ws ++ [x], by simp [e0], by simp [e3], by simp [e5], by simpa using hb5, ?_, ?_, fun x' hx' => ?_⟩
          · rw [List.map_append, List.map_append, hkey]
            congr 1
            simp [ActZ.key, MsgZ.key, f1, f2, f3]
          · simp; omega
          · rcases List.mem_append.1 hx' with hx' | hx'
            · exact hws x' hx'
            · rw [List.mem_singleton] at hx'; subst hx'; exact hxb
    subst hI4
    clear e0 e3 e4 e5 e6 e7 e8 e61 hb2 hkey hwl hws hsw hw80 m6 hcw l6
    rintro ⟨env, G⟩ ⟨D, ms, ws, e0, e3, e5, hb, hkey, hwl, hws⟩
    simp only at e0 e3 e5 hb
    generalize e4 : env 4 = wv at hb
    have hmsl : ms.length = ws.length := by have := congrArg List.length hkey; simpa using this.symm
    simp (disch := first | omega | assumption | decide | (simp <;> omega) | fail) [facts, e0, e3, e4, e5]
    refine (netAll_c D G p ms hb.net (by omega)).mono ?_
    rintro v G2 ⟨hle2, aa, ca, ns, rfl, hsa, hnk, hnd⟩
    have hb2 := hb.grow hle2
    simp (disch := first | omega | assumption | decide | (simp <;> omega) | fail) [facts, e0, e3, e4, e5]
    refine (netLen_c D _ p ms hb2.net).mono ?_
    rintro v G3 ⟨rfl, rfl⟩
    obtain ⟨aw, cw, rfl, hsw, hcw⟩ := hb2.wsl
    simp (disch := first | omega | assumption | decide | (simp <;> omega) | fail) [facts, e0, e3, e4, e5, hmsl]
    refine w_loop (cmpInv G3 (some ⟨b, o, none⟩) n c p i (.slice aw ws.length cw) (.slice aa ws.length ca) ws.length) (fun s => ws.length - (intOf (s.env 12)).toNat) ?_ ?_
    · exact ⟨0, rfl, by simp [e0], by simp [e3], by simp [e4], by simp [e5], by simp [hmsl], by simp, Nat.zero_le _⟩
    clear e0 e3 e4 e5
    rintro ⟨env2, G4⟩ ⟨k, hG, e0, e3, e4, e5, e11, e12, hk⟩
    simp only at hG e0 e3 e4 e5 e11 e12
    subst hG
    by_cases hkl : k < ws.length
    · have hkI : (k : Int) < (ws.length : Int) := by omega
      obtain ⟨y, hy⟩ : ∃ y, ws[k]? = some y := ⟨_, List.getElem?_eq_getElem hkl⟩
      obtain ⟨m, hm⟩ : ∃ m, ns[k]? = some m := ⟨_, List.getElem?_eq_getElem (by
        have := congrArg List.length hnk
        simp at this; omega)⟩
      have hym : y.key = m.key := by
        have := congrArg (·[k]?) (hkey.trans hnk.symm)
        simpa [hy, hm] using this
      simp only [ActZ.key, MsgZ.key, Prod.mk.injEq] at hym
      obtain ⟨q1, q2, q3⟩ := hym
      obtain ⟨bw, ow, rfl⟩ := hsw.lit (by omega)
      rw [hmsl] at hsa
      obtain ⟨ba, oa, rfl⟩ := hsa.lit (by omega)
      have r1 := hsw.el1 act5 hy (j := 1) (by decide)
      have r2 := hsw.el1 act5 hy (j := 2) (by decide)
      have r4 := hsw.el1 act5 hy (j := 4) (by decide)
      simp only [ActZ.cells, List.getElem?_cons_succ, List.getElem?_cons_zero] at r1 r2 r4
      rw [q1] at r1
      rw [q2] at r2
      rw [q3] at r4
      have n0 := hsa.part1 hkl (cellsM_at hm) (j := 0) (by decide)
      have n1 := hsa.part1 hkl (cellsM_at hm) (j := 1) (by decide)
      have n2 := hsa.part1 hkl (cellsM_at hm) (j := 2) (by decide)
      simp only [MsgZ.cells, List.getElem?_cons_succ, List.getElem?_cons_zero, Nat.add_zero] at n0 n1 n2
      have hmb := hnd m (List.mem_of_getElem? hm)
      have hyb := (hws y (List.mem_of_getElem? hy)).le hb2.le
      rw [q3] at hyb
      simp (disch := first | omega | assumption | decide | (simp <;> omega) | fail) [facts, e0, e3, e4, e5, e11, e12, hkI]
      refine w_plan (P := Try.prog) (by simp [facts]) (opsP [0,1,2,3,4,5,6,7,8,9,10,11,12,13,14,15,16,17,18,19,20,21,22,23,24,25,26,27,28,29,30,31,32,33,34,35,36,37,38] .done) ?_ ?_
      · decide +kernel
      simp (disch := first | omega | assumption | decide | (simp <;> omega) | fail) [facts, e0, e3, e4, e5, e11, e12, hkI, r1, r2, r4, n0, n1, n2, conv_bytes (P := Try.prog) (el := 5) (by simp [facts]) hmb, conv_by (P := Try.prog) (el := 5) (by simp [facts]) hyb, b_neqT]
      exact ⟨_, Heap.le_refl _, ⟨k + 1, rfl, by simp [e0], by simp [e3], by simp [e4], by simp [e5], by simp [e11], by simp, hkl⟩, by simp [intOf, e12]; omega⟩
    · simp (disch := first | omega | assumption | decide | (simp <;> omega) | fail) [facts, e0, e3, e4, e5, e11, e12, hkl]
      exact ⟨_, Heap.le_refl _, ⟨i + 1, D, ms, ws, by omega, by simp [e0], by simp [e3], by simp, by simpa [e4] using hb2, hkey, hwl, hws⟩, by simp [intOf]; omega⟩
  · have hin : i = n := by omega
    subst hin
    have hltI : ¬ (i : Int) < (i : Int) := by omega
    simp (disch := first | omega | assumption | decide | (simp <;> omega) | fail) [facts, e0, e5, hltI]
    exact ⟨_, Heap.le_refl _⟩
/-- What an argument's element is. -/
theorem act_is {M : Heap} {cs : List Value} (h : Fits M [.int .u8, .int .i64, .int .i64, .int .i64, .bytes] cs) : ∃ x : ActZ, (ByA M x.a x.b.length x.b ∧ x.w < 256) ∧ cs = x.cells := by
  obtain ⟨v0, r0, rfl, ⟨w, rfl, hw⟩, h1⟩ := h.cons
  obtain ⟨v1, r1, rfl, ⟨f, rfl, _⟩, h2⟩ := h1.cons
  obtain ⟨v2, r2, rfl, ⟨t, rfl, _⟩, h3⟩ := h2.cons
  obtain ⟨v3, r3, rfl, ⟨n, rfl, _⟩, h4⟩ := h3.cons
  obtain ⟨v4, r4, rfl, ⟨a, k, c, bs, rfl, _, _, hb⟩, h5⟩ := h4.cons
  have := h5.nil
  subst this
  have hw' := (u8_wf w).1 hw
  have hl := hb.len
  subst hl
  refine ⟨⟨w.toNat, f, t, n, bs, a, c⟩, ⟨hb, by show w.toNat < 256; omega⟩, ?_⟩
  simp only [ActZ.cells]
  rw [Int.toNat_of_nonneg hw'.1]
theorem acts_of {M : Heap} {xs : List Value} {n : Nat} (hl : xs.length = n * 5) (h : ∀ i, i < n → Fits M [.int .u8, .int .i64, .int .i64, .int .i64, .bytes] ((xs.drop (i * 5)).take 5)) : ∃ L : List ActZ, xs = rowsC ActZ.cells L ∧ (∀ x ∈ L, ByA M x.a x.b.length x.b) ∧ ∀ x ∈ L, x.w < 256 := by
  obtain ⟨L, e, _, hL⟩ := rows_list (Q := fun x : ActZ => ByA M x.a x.b.length x.b ∧ x.w < 256) act5 hl fun i hi => act_is (h i hi)
  exact ⟨L, e, fun x hx => (hL x hx).1, fun x hx => (hL x hx).2⟩
end Go.Proofs.Ytodflnpiabhpeaa.GL
