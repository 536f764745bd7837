/- Layer 4: FrameBack. -/
import Derived.Test.YtaphlamkpkldgaaFrO
namespace Go.Proofs.Ytaphlamkpkldgaa.GL
open Go Go.RowKit
set_option maxRecDepth 10000
set_option pp.deepTerms.threshold 8
set_option pp.maxSteps 3000
set_option linter.unusedSimpArgs false
set_option linter.unusedVariables false

def RZ.cells (r : RZ) : List Value := [.int .i64 r.kind, .int .u16 r.t, .int .u32 r.s, .string r.pan, .int .i64 r.am, .int .i64 r.ns.a, .int .i64 r.ns.b, .int .i64 r.ns.c, .int .i64 r.ns.d, .int .i64 r.rs.a, .int .i64 r.rs.b, .int .i64 r.rs.c, .int .i64 r.rs.d, .int .i64 r.ls.a, .int .i64 r.ls.b, .int .i64 r.ls.c, .int .i64 r.ls.d]
theorem rz17 (r : RZ) : r.cells.length = 17 := rfl
theorem rz1 (r : RZ) : r.cells.all (·.oneCell') = true := rfl
theorem rec_of {M : Heap} {k : Array Value} (h : Fits M ([.int .i64, .int .u16, .int .u32, .str, .int .i64, .int .i64, .int .i64, .int .i64, .int .i64, .int .i64, .int .i64, .int .i64, .int .i64, .int .i64, .int .i64, .int .i64, .int .i64]) k.toList) : ∃ r : RZ, k = #[.int .i64 r.kind, .int .u16 r.t, .int .u32 r.s, .string r.pan, .int .i64 r.am, .int .i64 r.ns.a, .int .i64 r.ns.b, .int .i64 r.ns.c, .int .i64 r.ns.d, .int .i64 r.rs.a, .int .i64 r.rs.b, .int .i64 r.rs.c, .int .i64 r.rs.d, .int .i64 r.ls.a, .int .i64 r.ls.b, .int .i64 r.ls.c, .int .i64 r.ls.d] ∧ r.wf ∧ r.pan.size ≤ maxLen := by
  obtain ⟨l⟩ := k
  simp only at h
  obtain ⟨v0, q0, rfl, ⟨kd, rfl, wkd⟩, g0⟩ := h.cons
  obtain ⟨v1, q1, rfl, ⟨t, rfl, wt⟩, g1⟩ := g0.cons
  obtain ⟨v2, q2, rfl, ⟨s, rfl, ws⟩, g2⟩ := g1.cons
  obtain ⟨v3, q3, rfl, ⟨pan, rfl, wpan⟩, g3⟩ := g2.cons
  obtain ⟨v4, q4, rfl, ⟨am, rfl, wam⟩, g4⟩ := g3.cons
  obtain ⟨v5, q5, rfl, ⟨n0, rfl, wn0⟩, g5⟩ := g4.cons
  obtain ⟨v6, q6, rfl, ⟨n1, rfl, wn1⟩, g6⟩ := g5.cons
  obtain ⟨v7, q7, rfl, ⟨n2, rfl, wn2⟩, g7⟩ := g6.cons
  obtain ⟨v8, q8, rfl, ⟨n3, rfl, wn3⟩, g8⟩ := g7.cons
  obtain ⟨v9, q9, rfl, ⟨r0, rfl, wr0⟩, g9⟩ := g8.cons
  obtain ⟨v10, q10, rfl, ⟨r1, rfl, wr1⟩, g10⟩ := g9.cons
  obtain ⟨v11, q11, rfl, ⟨r2, rfl, wr2⟩, g11⟩ := g10.cons
  obtain ⟨v12, q12, rfl, ⟨r3, rfl, wr3⟩, g12⟩ := g11.cons
  obtain ⟨v13, q13, rfl, ⟨l0, rfl, wl0⟩, g13⟩ := g12.cons
  obtain ⟨v14, q14, rfl, ⟨l1, rfl, wl1⟩, g14⟩ := g13.cons
  obtain ⟨v15, q15, rfl, ⟨l2, rfl, wl2⟩, g15⟩ := g14.cons
  obtain ⟨v16, q16, rfl, ⟨l3, rfl, wl3⟩, g16⟩ := g15.cons
  obtain rfl := g16.nil
  refine ⟨⟨kd, t, s, pan, am, ⟨n0, n1, n2, n3⟩, ⟨r0, r1, r2, r3⟩, ⟨l0, l1, l2, l3⟩⟩, rfl, ⟨?_, ?_⟩, wpan⟩
  · exact (u16_wf t).1 wt
  · exact (u32_wf s).1 ws
def fbInv (F : Heap) (b6 b39 a5 : Nat) (sv : Value) (st : St) : Prop :=
  ∃ k : Nat, k ≤ 2 ∧ st.env 5 = sv ∧ st.env 39 = .slice (some ⟨b39, 0, none⟩) 2 2 ∧ st.env 40 = .int .i64 2 ∧ st.env 41 = .int .i64 k ∧ Heap.le F st.heap
set_option maxHeartbeats 1000000 in
theorem frameBack_c (r : RZ) (kind k stan amount : Nat) (a : Option Addr) (n c : Nat) (more : List UInt8) (H : Heap) (hw : r.wf) (hps : r.pan.size ≤ maxLen) (h1 : kind < 256) (h2 : k < 256) (h3 : stan < 256) (h4 : amount < 65536) (h : SlA H a n 1 (more.map u8V)) (hc : n ≤ c) :
    ECalls Try.prog 3 #[.agg #[.int .i64 r.kind, .int .u16 r.t, .int .u32 r.s, .string r.pan, .int .i64 r.am, .int .i64 r.ns.a, .int .i64 r.ns.b, .int .i64 r.ns.c, .int .i64 r.ns.d, .int .i64 r.rs.a, .int .i64 r.rs.b, .int .i64 r.rs.c, .int .i64 r.rs.d, .int .i64 r.ls.a, .int .i64 r.ls.b, .int .i64 r.ls.c, .int .i64 r.ls.d], .int .u8 kind, .int .u8 k, .int .u8 stan, .int .u16 amount, .slice a n c] H fun v _ => v = .bool true := by
  refine ecalls_of_ewp (args := [_, _, _, _, _, _]) Try.func3 rfl rfl rfl (by simp [Try.ntmps3]) (by kernel_rfl) ?_
  have hl : more.length = n := by simpa using h.len
  have hps' : r.pan.size ≤ 9223372036854775807 := hps
  simp (disch := first | omega | assumption | decide | (simp <;> omega) | fail) [facts, ]
  refine fresh_intro fun b6 hb6 => ?_
  have r6 := upd_same H b6 (.row true 0 [.int .i64 r.kind, .int .u16 r.t, .int .u32 r.s, .string r.pan, .int .i64 r.am, .int .i64 r.ns.a, .int .i64 r.ns.b, .int .i64 r.ns.c, .int .i64 r.ns.d, .int .i64 r.rs.a, .int .i64 r.rs.b, .int .i64 r.rs.c, .int .i64 r.rs.d, .int .i64 r.ls.a, .int .i64 r.ls.b, .int .i64 r.ls.c, .int .i64 r.ls.d] 0)
  have hl6 := le_upd (.row true 0 [.int .i64 r.kind, .int .u16 r.t, .int .u32 r.s, .string r.pan, .int .i64 r.am, .int .i64 r.ns.a, .int .i64 r.ns.b, .int .i64 r.ns.c, .int .i64 r.ns.d, .int .i64 r.rs.a, .int .i64 r.rs.b, .int .i64 r.rs.c, .int .i64 r.rs.d, .int .i64 r.ls.a, .int .i64 r.ls.b, .int .i64 r.ls.c, .int .i64 r.ls.d] 0) hb6
  generalize upd H b6 (.row true 0 [.int .i64 r.kind, .int .u16 r.t, .int .u32 r.s, .string r.pan, .int .i64 r.am, .int .i64 r.ns.a, .int .i64 r.ns.b, .int .i64 r.ns.c, .int .i64 r.ns.d, .int .i64 r.rs.a, .int .i64 r.rs.b, .int .i64 r.rs.c, .int .i64 r.rs.d, .int .i64 r.ls.a, .int .i64 r.ls.b, .int .i64 r.ls.c, .int .i64 r.ls.d] 0) = H1 at *
  simp (disch := first | omega | assumption | decide | (simp <;> omega) | fail) [facts, ]
  refine (known_c H1).mono ?_
  rintro v H2 ⟨rfl, hl2⟩
  have r6b := hl2 _ _ r6
  by_cases hp : r.pan.size ≤ 60
  case neg =>
    have hpI : (60 : Int) < (r.pan.size : Int) := by omega
    simp (disch := first | omega | assumption | decide | (simp <;> omega) | fail) [facts, r6b, hpI]
    exact ⟨_, Heap.le_refl _⟩
  have hpI : ¬ (60 : Int) < (r.pan.size : Int) := by omega
  by_cases hn : n ≤ 100
  case neg =>
    have hnI : (100 : Int) < (n : Int) := by omega
    simp (disch := first | omega | assumption | decide | (simp <;> omega) | fail) [facts, r6b, hpI, hnI]
    exact ⟨_, Heap.le_refl _⟩
  have hnI : ¬ (100 : Int) < (n : Int) := by omega
  simp (disch := first | omega | assumption | decide | (simp <;> omega) | fail) [facts, r6b, hpI, hnI]
  obtain ⟨s, hs⟩ : ∃ s, s = recS kind k stan amount := ⟨_, rfl⟩
  have hsr : s.right = true := by rw [hs]; exact (recS_right kind k stan amount h2 h3).1
  have hsw : s.wf := by rw [hs]; exact (recS_right kind k stan amount h2 h3).2
  have hsp := pan_le hsr
  have hcel : splice (splice (zeros [.int .i64 0, .int .u16 0, .int .u32 0, .string ByteArray.empty, .int .i64 0, .int .i64 0, .int .i64 0, .int .i64 0, .int .i64 0, .int .i64 0, .int .i64 0, .int .i64 0, .int .i64 0, .int .i64 0, .int .i64 0, .int .i64 0, .int .i64 0] 2) 0 [.int .i64 r.kind, .int .u16 r.t, .int .u32 r.s, .string r.pan, .int .i64 r.am, .int .i64 r.ns.a, .int .i64 r.ns.b, .int .i64 r.ns.c, .int .i64 r.ns.d, .int .i64 r.rs.a, .int .i64 r.rs.b, .int .i64 r.rs.c, .int .i64 r.rs.d, .int .i64 r.ls.a, .int .i64 r.ls.b, .int .i64 r.ls.c, .int .i64 r.ls.d]) 17 [.int .i64 s.kind, .int .u16 s.t, .int .u32 s.s, .string s.pan, .int .i64 s.am, .int .i64 s.ns.a, .int .i64 s.ns.b, .int .i64 s.ns.c, .int .i64 s.ns.d, .int .i64 s.rs.a, .int .i64 s.rs.b, .int .i64 s.rs.c, .int .i64 s.rs.d, .int .i64 s.ls.a, .int .i64 s.ls.b, .int .i64 s.ls.c, .int .i64 s.ls.d] = rowsC RZ.cells [r, s] := rfl
  refine w_growL (by simp [facts]) 9 [33,34,35,36,37,38,39,40,41] [.eq (.agg #[.int .i64 r.kind, .int .u16 r.t, .int .u32 r.s, .string r.pan, .int .i64 r.am, .int .i64 r.ns.a, .int .i64 r.ns.b, .int .i64 r.ns.c, .int .i64 r.ns.d, .int .i64 r.rs.a, .int .i64 r.rs.b, .int .i64 r.rs.c, .int .i64 r.rs.d, .int .i64 r.ls.a, .int .i64 r.ls.b, .int .i64 r.ls.c, .int .i64 r.ls.d]), .eq (.int .u8 kind), .eq (.int .u8 k), .eq (.int .u8 stan), .eq (.int .u16 amount), .eq (.agg #[.int .i64 s.kind, .int .u16 s.t, .int .u32 s.s, .string s.pan, .int .i64 s.am, .int .i64 s.ns.a, .int .i64 s.ns.b, .int .i64 s.ns.c, .int .i64 s.ns.d, .int .i64 s.rs.a, .int .i64 s.rs.b, .int .i64 s.rs.c, .int .i64 s.rs.d, .int .i64 s.ls.a, .int .i64 s.ls.b, .int .i64 s.ls.c, .int .i64 s.ls.d]), .new H2 (rowsC RZ.cells [r, s]) (fun b => .slice (some ⟨b, 0, none⟩) 2 2), .eq (.int .i64 2), .eq (.int .i64 0)] (by decide +kernel) rfl ?_ ?_
  · simp only [List.take_succ_cons, List.take_zero, allL_cons, allL_nil]
    refine ⟨?_, ?_, ?_, ?_, ?_, ?_, ?_, ?_, ?_, trivial⟩
    all_goals (unfold stepL; intro f Hx hl' ha; have hx := hl' _ _ r6b)
    all_goals try (simp (disch := first | omega | assumption | decide | (simp <;> omega) | fail) [facts, hx]; done)
    · simp (disch := first | omega | assumption | decide | (simp <;> omega) | fail) [facts, ]
      refine (rec_c kind k stan amount h1 h2 h3 h4 Hx s hs).mono ?_
      rintro v H' ⟨rfl, hl''⟩
      simp (disch := first | omega | assumption | decide | (simp <;> omega) | fail) [facts, ]
      exact hl''
    · simp (disch := first | omega | assumption | decide | (simp <;> omega) | fail) [facts, ]
      refine fresh_intro fun b hb => ?_
      simp (disch := first | omega | assumption | decide | (simp <;> omega) | fail) [facts, hcel]
      exact ⟨le_upd _ hb, le_of_none hl' hb⟩
    · replace ha : (∃ b, f 39 = .slice (some ⟨b, 0, none⟩) 2 2 ∧ H2 b = none ∧ Hx b = some (.row true 0 (rowsC RZ.cells [r, s]) 0)) := by simpa using ha
      obtain ⟨b, f39, _⟩ := ha
      simp (disch := first | omega | assumption | decide | (simp <;> omega) | fail) [facts, f39]
  intro f H3 hl3 hkn
  replace hkn : (∃ b, f 39 = .slice (some ⟨b, 0, none⟩) 2 2 ∧ H2 b = none ∧ H3 b = some (.row true 0 (rowsC RZ.cells [r, s]) 0)) := by simpa using hkn
  obtain ⟨b39, f39, hb39, r39⟩ := hkn
  simp (disch := first | omega | assumption | decide | (simp <;> omega) | fail) [facts, ]
  refine w_loop (fbInv H3 b6 b39 n (.slice a n c)) (fun st => 2 - (intOf (st.env 41)).toNat) ?_ ?_
  · exact ⟨0, by decide, by simp, by simp [f39], by simp, by simp, Heap.le_refl _⟩
  rintro ⟨env, G⟩ ⟨j, hj, e5, e39, e40, e41, hle⟩
  simp only at e5 e39 e40 e41 hle
  have hmore : SlA G a n 1 (more.map u8V) := h.le (Heap.le_trans hl6 (Heap.le_trans hl2 (Heap.le_trans hl3 hle)))
  by_cases hlt : j < 2
  case neg =>
    have hj2 : j = 2 := by omega
    subst hj2
    simp (disch := first | omega | assumption | decide | (simp <;> omega) | fail) [facts, e5, e39, e40, e41]
    refine (sum_c a n c more G hmore (by omega)).mono ?_
    rintro v G' ⟨rfl, rfl⟩
    simp (disch := first | omega | assumption | decide | (simp <;> omega) | fail) [facts, e5]
    refine (crc_c a n c more G' hmore (by omega)).mono ?_
    rintro v G'' ⟨rfl, rfl⟩
    simp (disch := first | omega | assumption | decide | (simp <;> omega) | fail) [facts, ]
    exact ⟨_, Heap.le_refl _⟩
  have hltI : (j : Int) < 2 := by omega
  obtain ⟨x, hx⟩ : ∃ x, [r, s][j]? = some x := ⟨_, List.getElem?_eq_getElem (by simpa using hlt)⟩
  have hxw : x.wf ∧ x.pan.size ≤ 60 := by
    have := List.mem_of_getElem? hx
    simp only [List.mem_cons, List.not_mem_nil, or_false] at this
    rcases this with rfl | rfl
    · exact ⟨hw, hp⟩
    · exact ⟨hsw, by omega⟩
  obtain ⟨hxw, hxp⟩ := hxw
  have hsl : SlA G (some ⟨b39, 0, none⟩) 2 17 (rowsC RZ.cells [r, s]) := SlA.row (hle _ _ r39) (Nat.le_refl _) rfl (by simp [rowsC, RZ.cells]) (by simp [rowsC, RZ.cells])
  have rx : rdNU (G b39) (0 + j * 17) 17 = some [.int .i64 x.kind, .int .u16 x.t, .int .u32 x.s, .string x.pan, .int .i64 x.am, .int .i64 x.ns.a, .int .i64 x.ns.b, .int .i64 x.ns.c, .int .i64 x.ns.d, .int .i64 x.rs.a, .int .i64 x.rs.b, .int .i64 x.rs.c, .int .i64 x.rs.d, .int .i64 x.ls.a, .int .i64 x.ls.b, .int .i64 x.ls.c, .int .i64 x.ls.d] := hsl.el rz17 hx (j := 0) (r := 17) (by decide) (by decide)
  rw [Nat.zero_add] at rx
  simp (disch := first | omega | assumption | decide | (simp <;> omega) | fail) [facts, e39, e40, e41, hltI, rx]
  refine fresh_intro fun b14 hb14 => ?_
  simp (disch := first | omega | assumption | decide | (simp <;> omega) | fail) [facts, upd_upd]
  have r14 := upd_same G b14 (.row true 0 [.int .i64 x.kind, .int .u16 x.t, .int .u32 x.s, .string x.pan, .int .i64 x.am, .int .i64 x.ns.a, .int .i64 x.ns.b, .int .i64 x.ns.c, .int .i64 x.ns.d, .int .i64 x.rs.a, .int .i64 x.rs.b, .int .i64 x.rs.c, .int .i64 x.rs.d, .int .i64 x.ls.a, .int .i64 x.ls.b, .int .i64 x.ls.c, .int .i64 x.ls.d] 0)
  have hl14 := le_upd (.row true 0 [.int .i64 x.kind, .int .u16 x.t, .int .u32 x.s, .string x.pan, .int .i64 x.am, .int .i64 x.ns.a, .int .i64 x.ns.b, .int .i64 x.ns.c, .int .i64 x.ns.d, .int .i64 x.rs.a, .int .i64 x.rs.b, .int .i64 x.rs.c, .int .i64 x.rs.d, .int .i64 x.ls.a, .int .i64 x.ls.b, .int .i64 x.ls.c, .int .i64 x.ls.d] 0) hb14
  generalize upd G b14 (.row true 0 [.int .i64 x.kind, .int .u16 x.t, .int .u32 x.s, .string x.pan, .int .i64 x.am, .int .i64 x.ns.a, .int .i64 x.ns.b, .int .i64 x.ns.c, .int .i64 x.ns.d, .int .i64 x.rs.a, .int .i64 x.rs.b, .int .i64 x.rs.c, .int .i64 x.rs.d, .int .i64 x.ls.a, .int .i64 x.ls.b, .int .i64 x.ls.c, .int .i64 x.ls.d] 0) = G1 at *
  refine (fputA_c x G1 hxw (by omega)).mono ?_
  rintro v G2 ⟨sv, rfl, R, ow, hlb⟩
  obtain ⟨a1, c1, rfl, hs1, hc1⟩ := LstR.sl hlb ow.le
  have r14b := ow.all _ _ r14
  simp (disch := first | omega | assumption | decide | (simp <;> omega) | fail) [facts, r14b]
  refine (rputA_c x G2 hxw (by omega)).mono ?_
  rintro v G3 ⟨sv, rfl, R', ow', hlb'⟩
  obtain ⟨a2, c2, rfl, hs2, hc2⟩ := LstR.sl hlb' ow'.le
  have r14c := ow'.all _ _ r14b
  have hs1' := hs1.le ow'.all
  simp (disch := first | omega | assumption | decide | (simp <;> omega) | fail) [facts, ]
  refine w_growL (by simp [facts]) 17 [55,56,57,58,59,60,61,62,63,64,65,66,67,68,69,70,71] [.eq (.int .i64 (putE x)), .eq (.int .i64 (putE x)), .eq (.bool false), .eq (.bool false), .eq (.slice a1 (putX x).length c1), .eq (.string (mkS (putX x))), .eq (.slice a2 (putX x).length c2), .eq (.string (mkS (putX x))), .eq (.bool false), .eq (.bool false), .eq (.bool false), .eq (.agg #[.int .i64 x.kind, .int .u16 x.t, .int .u32 x.s, .string x.pan, .int .i64 x.am, .int .i64 x.ns.a, .int .i64 x.ns.b, .int .i64 x.ns.c, .int .i64 x.ns.d, .int .i64 x.rs.a, .int .i64 x.rs.b, .int .i64 x.rs.c, .int .i64 x.rs.d, .int .i64 x.ls.a, .int .i64 x.ls.b, .int .i64 x.ls.c, .int .i64 x.ls.d]), .eq (.bool x.right), .eq (.agg #[.int .i64 x.kind, .int .u16 x.t, .int .u32 x.s, .string x.pan, .int .i64 x.am, .int .i64 x.ns.a, .int .i64 x.ns.b, .int .i64 x.ns.c, .int .i64 x.ns.d, .int .i64 x.rs.a, .int .i64 x.rs.b, .int .i64 x.rs.c, .int .i64 x.rs.d, .int .i64 x.ls.a, .int .i64 x.ls.b, .int .i64 x.ls.c, .int .i64 x.ls.d]), .eq (.bool x.right), .eq (.bool false), .eq (.bool false)] (by decide +kernel) rfl ?_ ?_
  · simp only [List.take_succ_cons, List.take_zero, allL_cons, allL_nil]
    refine ⟨?_, ?_, ?_, ?_, ?_, ?_, ?_, ?_, ?_, ?_, ?_, ?_, ?_, ?_, ?_, ?_, ?_, trivial⟩
    all_goals (unfold stepL; intro f Hx hl' ha; have hx' := hl' _ _ r14c)
    all_goals try (simp (disch := first | omega | assumption | decide | (simp <;> omega) | fail) [facts, hx']; done)
    · simp (disch := first | omega | assumption | decide | (simp <;> omega) | fail) [facts, ]
      rw [conv_bytes (by simp [facts]) (hs1'.le hl')]
      simp (disch := first | omega | assumption | decide | (simp <;> omega) | fail) [facts, ]
    · simp (disch := first | omega | assumption | decide | (simp <;> omega) | fail) [facts, ]
      rw [conv_bytes (by simp [facts]) (hs2.le hl')]
      simp (disch := first | omega | assumption | decide | (simp <;> omega) | fail) [facts, ]
    · simp (disch := first | omega | assumption | decide | (simp <;> omega) | fail) [facts, ]
      refine (right_c x Hx (by omega)).mono ?_
      rintro v H' ⟨rfl, hl''⟩
      simp (disch := first | omega | assumption | decide | (simp <;> omega) | fail) [facts, ]
      exact hl''
    · simp (disch := first | omega | assumption | decide | (simp <;> omega) | fail) [facts, ]
      refine (rightR_c x Hx (by omega)).mono ?_
      rintro v H' ⟨rfl, hl''⟩
      simp (disch := first | omega | assumption | decide | (simp <;> omega) | fail) [facts, ]
      exact hl''
  intro f G4 hl4 hkn
  clear hkn
  have r14d := hl4 _ _ r14c
  have hleA := Heap.le_trans hle (Heap.le_trans hl14 (Heap.le_trans ow.all (Heap.le_trans ow'.all hl4)))
  cases hxr : x.right with
  | false =>
    have hE : putE x = 27 := by simp [putE, hxr]
    simp (disch := first | omega | assumption | decide | (simp <;> omega) | fail) [facts, hE, e41]
    exact ⟨_, Heap.le_refl _, ⟨j + 1, by omega, by simp [e5], by simp [e39], by simp [e40], by simp, hleA⟩, by simp [intOf, e41]; omega⟩
  | true =>
  have hE : putE x = 0 := by simp [putE, hxr]
  have hX : putX x = putB x := by simp [putX, hxr]
  have hxlen := putB_len x
  rw [hX] at hs1'
  simp (disch := first | omega | assumption | decide | (simp <;> omega) | fail) [facts, hE, hX]
  refine app_b (F := G4) (R0 := fun _ => none) (R := fun _ => none) (bs := []) (ys := putB x) (.inl ⟨rfl, rfl, rfl⟩) (Own.nil (Heap.le_refl _)) ⟨_, _, _, rfl, hs1'.le hl4⟩ (by simp; omega) ?_
  intro v5 G5 R5 ow5 hl5 _
  simp (disch := first | omega | assumption | decide | (simp <;> omega) | fail) [facts, e5]
  have hmore5 := hmore.le (Heap.le_trans hl14 (Heap.le_trans ow.all (Heap.le_trans ow'.all (Heap.le_trans hl4 ow5.all))))
  refine app_b hl5 ow5 ⟨_, _, _, rfl, hmore5⟩ (by simp; omega) ?_
  intro v6 G6 R6 ow6 hl6' _
  rw [List.nil_append] at hl6'
  obtain ⟨a6, c6, rfl, hs6, hc6⟩ := LstR.sl hl6' ow6.le
  have hput := read_put x hxr hxw more
  rw [List.length_append] at hs6 hc6
  simp (disch := first | omega | assumption | decide | (simp <;> omega) | fail) [facts, ]
  refine (fread_c a6 _ c6 (putB x ++ more) G6 hs6 hc6 (by omega) x _ 0 hput).mono ?_
  rintro v G7 ⟨rfl, hl7⟩
  simp (disch := first | omega | assumption | decide | (simp <;> omega) | fail) [facts, ]
  refine fresh_intro fun b19 hb19 => ?_
  simp (disch := first | omega | assumption | decide | (simp <;> omega) | fail) [facts, upd_upd]
  have r19 := upd_same G7 b19 (.row true 0 [.int .i64 x.kind, .int .u16 x.t, .int .u32 x.s, .string x.pan, .int .i64 x.am, .int .i64 x.ns.a, .int .i64 x.ns.b, .int .i64 x.ns.c, .int .i64 x.ns.d, .int .i64 x.rs.a, .int .i64 x.rs.b, .int .i64 x.rs.c, .int .i64 x.rs.d, .int .i64 x.ls.a, .int .i64 x.ls.b, .int .i64 x.ls.c, .int .i64 x.ls.d] 0)
  have hl19 := le_upd (.row true 0 [.int .i64 x.kind, .int .u16 x.t, .int .u32 x.s, .string x.pan, .int .i64 x.am, .int .i64 x.ns.a, .int .i64 x.ns.b, .int .i64 x.ns.c, .int .i64 x.ns.d, .int .i64 x.rs.a, .int .i64 x.rs.b, .int .i64 x.rs.c, .int .i64 x.rs.d, .int .i64 x.ls.a, .int .i64 x.ls.b, .int .i64 x.ls.c, .int .i64 x.ls.d] 0) hb19
  have r14e := hl19 _ _ (hl7 _ _ (ow6.all _ _ r14d))
  generalize upd G7 b19 (.row true 0 [.int .i64 x.kind, .int .u16 x.t, .int .u32 x.s, .string x.pan, .int .i64 x.am, .int .i64 x.ns.a, .int .i64 x.ns.b, .int .i64 x.ns.c, .int .i64 x.ns.d, .int .i64 x.rs.a, .int .i64 x.rs.b, .int .i64 x.rs.c, .int .i64 x.rs.d, .int .i64 x.ls.a, .int .i64 x.ls.b, .int .i64 x.ls.c, .int .i64 x.ls.d] 0) = G8 at *
  simp (disch := first | omega | assumption | decide | (simp <;> omega) | fail) [facts, r14e, r19, hX, e41]
  exact ⟨_, Heap.le_refl _, ⟨j + 1, by omega, by simp [e5], by simp [e39], by simp [e40], by simp, Heap.le_trans hleA (Heap.le_trans ow6.all (Heap.le_trans hl7 hl19))⟩, by simp [intOf, e41]; omega⟩
end Go.Proofs.Ytaphlamkpkldgaa.GL
