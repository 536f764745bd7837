/- Layer 23: known: a difference, and none; what is settled; the report of a new book. -/
import Derived.Test.YtfpighmafofoeaaDoorRpC
import Derived.Test.YtfpighmafofoeaaDoorRpE
import Derived.Test.YtfpighmafofoeaaDoorBnY
namespace Go.Proofs.YtfpighmafofoeaaDoor.GL
open Go Go.RowKit
open Su (i64In totV totV_yes totV_no)
open St (Txn txnL txnV zeroT)
open Ca (Cs S4 flat setV CassOk COk)
set_option maxRecDepth 10000
set_option pp.deepTerms.threshold 8
set_option pp.maxSteps 3000
set_option linter.unusedSimpArgs false
set_option linter.unusedVariables false

instance (v : Int) : Decidable (i64In v) := inferInstanceAs (Decidable (_ ∧ _))
def csS (s : S4) : List Cs := [s.a, s.b, s.c, s.e]
theorem flat_rows4 (s : S4) : flat s = rowsC csC (csS s) := rfl
theorem kdf1 {s : S4} (hs : CassOk s) : dfTo (csS s) [0, 2, 0, 0] [0, 0, 0, 0] 4 = [⟨1, 2, 0⟩] := by
  obtain ⟨⟨_, _, _, _, a5, a6⟩, ⟨_, _, _, _, b5, b6⟩, ⟨_, _, _, _, c5, c6⟩, ⟨_, _, _, _, d5, d6⟩⟩ := hs
  have l1 : lessZ 2 0 = 2 := by decide
  have l0 : lessZ 0 0 = 0 := by decide
  simp [dfTo, List.range_succ, dfAt, csS, a5, a6, b5, b6, c5, c6, d5, d6, l1, l0]
theorem kdf0 {s : S4} (hs : CassOk s) : dfTo (csS s) [0, 0, 0, 0] [0, 0, 0, 0] 4 = [] := by
  obtain ⟨⟨_, _, _, _, a5, a6⟩, ⟨_, _, _, _, b5, b6⟩, ⟨_, _, _, _, c5, c6⟩, ⟨_, _, _, _, d5, d6⟩⟩ := hs
  simp [dfTo, List.range_succ, dfAt, csS, a5, a6, b5, b6, c5, c6, d5, d6]
theorem kci {s : S4} (hs : CassOk s) : ∀ c ∈ csS s, i64In c.g ∧ i64In c.r := by
  obtain ⟨⟨_, _, _, _, a5, a6⟩, ⟨_, _, _, _, b5, b6⟩, ⟨_, _, _, _, c5, c6⟩, ⟨_, _, _, _, d5, d6⟩⟩ := hs
  intro c hc
  simp only [csS, List.mem_cons, List.not_mem_nil, or_false] at hc
  rcases hc with rfl | rfl | rfl | rfl
  · rw [a5, a6]; decide
  · rw [b5, b6]; decide
  · rw [c5, c6]; decide
  · rw [d5, d6]; decide
def ktx : Txn := ⟨0, 0, [], 0, 5, 0, 0, 0, 0, 5, 0⟩
theorem ktx_sum : totV (sgZ [ktx]).sum = .tuple #[.int .i64 5, .bool true] := by
  have h : (sgZ [ktx]).sum = 5 := by decide
  rw [h, totV_yes (by decide)]
theorem dec0 : Lib.decDigits 0 = [48] := by rw [Lib.decDigits, dif_pos (by decide)]; rfl
theorem itoa0 : Lib.itoa 0 = [48] := by unfold Lib.itoa; rw [if_neg (by decide)]; exact dec0
theorem kcut {T : List Tm} (h : T.length = 1) (ho : ∀ x ∈ T, x.out = false) : cutZ [] T T.length = [84, 48, 32, 48, 32, 48, 32, 48, 32, 48, 10] := by
  rw [h]
  have h0 : outZ T 0 = false := by
    unfold outZ
    cases hx : T[0]? with
    | none => rfl
    | some x => exact ho x (List.mem_of_getElem? hx)
  have e : cutZ [] T 1 = lineZ 0 [] (outZ T 0) := by simp [cutZ, List.range_succ]
  rw [e, h0]
  unfold lineZ
  have h1 : sumZ 0 [] = 0 := by decide
  have h2 : (sdL 0 []).length = 0 := by decide
  have h3 : opN 0 [] = 0 := by decide
  rw [h1, h2, h3, dec0, itoa0, join5]
  decide
theorem kok {H : Heap} {T : List Tm} (h : T.length = 1) : CutOk H [] T where
  srt := by simp [Sorted]
  few := by decide
  trm := by omega
  giv := fun t ht => by cases ht
  ter := fun t ht => by cases ht
  sum := fun i _ => by show i64In 0; decide
  len := fun i _ => by show (Lib.itoa 0).length ≤ 30; rw [itoa0]; decide
  fmt := fun i _ G _ => by
    have e : sumZ i [] = 0 := rfl
    rw [e, itoa0]
    have := fmtS_c 0 (by decide) G
    rw [dec0] at this
    exact this
set_option maxHeartbeats 1000000 in
theorem known23_c (H : Heap) : ECalls Tryd.prog 6 #[] H fun v H' => v = .bool true ∧ Heap.le H H' := by
  refine ecalls_of_ewp (args := []) Tryd.func6 rfl rfl rfl (by simp [Tryd.ntmps6]) (by kernel_rfl) ?_
  have hcs := fun H => Ca.cass_c 1 H (by decide)
  have hb1 := fun H => bank_c 0 1 H (by decide) (by decide)
  simp (disch := first | omega | assumption | decide | (simp <;> omega) | fail) [facts, ]
  refine (hcs H).mono ?_
  rintro v H1 ⟨⟨s, rfl, hs⟩, hle1⟩
  have hd1 := kdf1 hs
  have hd0 := kdf0 hs
  have hci := kci hs
  have cd1 := fun H => diffs_c (csS s) [0, 2, 0, 0] [0, 0, 0, 0] H rfl rfl rfl hci (by decide) (by decide)
  have cd0 := fun H => diffs_c (csS s) [0, 0, 0, 0] [0, 0, 0, 0] H rfl rfl rfl hci (by decide) (by decide)
  rw [hd1] at cd1
  rw [hd0] at cd0
  unfold cssV notV at cd1 cd0
  simp only [← flat_rows4, List.map_cons, List.map_nil, i64V_def] at cd1 cd0
  unfold setV
  obtain ⟨xl, hxl⟩ : ∃ xl, xl = flat s := ⟨_, rfl⟩
  rw [← hxl]
  simp only [← hxl] at cd1 cd0
  have xl16 : xl.length = 16 := by rw [hxl]; rfl
  have xl1 : xl.all (·.oneCell') = true := by rw [hxl]; rfl
  have k16 : List.take 16 xl = xl := List.take_of_length_le (by omega)
  have hsp : splice [.int .i64 0, .int .i64 0, .int .i64 0, .int .i64 0, .int .i64 0, .int .i64 0, .int .i64 0, .int .i64 0, .int .i64 0, .int .i64 0, .int .i64 0, .int .i64 0, .int .i64 0, .int .i64 0, .int .i64 0, .int .i64 0] 0 xl = xl := splice_all (by rw [xl16]; rfl)
  clear hd1 hd0 hci
  simp (disch := first | omega | assumption | decide | (simp <;> omega) | fail) [facts, ]
  refine fresh_intro fun b1 hb1' => ?_
  have r1 := upd_same H1 b1 (.row true 0 xl 0)
  have hle2 := Heap.le_trans hle1 (le_upd (.row true 0 xl 0) hb1')
  simp (disch := first | omega | assumption | decide | (simp <;> omega) | fail) [facts, upd_upd, xl16, xl1, hsp]
  generalize upd H1 b1 _ = H2 at *
  simp (disch := first | omega | assumption | decide | (simp <;> omega) | fail) [facts, r1, k16]
  refine (cd1 H2).mono ?_
  rintro v H3 ⟨hle3, a, c, rfl, hsl⟩
  have r1b := hle3 _ _ r1
  have hle4 := Heap.le_trans hle2 hle3
  obtain ⟨ab, ao, rfl⟩ := hsl.lit (by decide)
  have rx : ∀ G, Heap.le H3 G → rdNU (G ab) ao 3 = some [.int .i64 1, .int .i64 2, .int .i64 0] := fun G hG => by
    have h := (hsl.le hG).el df3 (k := 0) (x := ⟨1, 2, 0⟩) rfl (j := 0) (r := 3) (by decide) (by decide)
    simpa [Df.cells] using h
  have hsp3 : splice (zeros [.int .u16 0, .int .u32 0, .string (mkS []), .int .i64 0, .int .i64 0, .int .i64 0, .int .i64 0, .int .i64 0, .int .i64 0, .int .i64 0, .int .i64 0] 1) 0 [.int .u16 0, .int .u32 0, .string (mkS []), .int .i64 0, .int .i64 5, .int .i64 0, .int .i64 0, .int .i64 0, .int .i64 0, .int .i64 5, .int .i64 0] = [.int .u16 0, .int .u32 0, .string (mkS []), .int .i64 0, .int .i64 5, .int .i64 0, .int .i64 0, .int .i64 0, .int .i64 0, .int .i64 5, .int .i64 0] := rfl
  simp (disch := first | omega | assumption | decide | (simp <;> omega) | fail) [facts, ]
  refine fresh_intro fun b14 hb14 => ?_
  simp (disch := first | omega | assumption | decide | (simp <;> omega) | fail) [facts, hsp3]
  have r14 := upd_same H3 b14 (.row true 0 (txnL ktx) 0)
  have hle5 := le_upd (.row true 0 (txnL ktx) 0) hb14
  have hst := settled_c (some ⟨b14, 0, none⟩) 1 1 [ktx] (upd H3 b14 (.row true 0 (txnL ktx) 0)) (SlA.row r14 (Nat.le_refl _) rfl (Nat.le_refl 11) rfl) (fun t ht => by simp at ht; subst ht; decide) (by decide)
  rw [ktx_sum] at hst
  refine hst.mono ?_
  clear hst
  rintro v H5 ⟨rfl, hle6⟩
  have hle7 := Heap.le_trans hle5 hle6
  simp (disch := first | omega | assumption | decide | (simp <;> omega) | fail) [facts, ]
  refine (hb1 H5).mono ?_
  rintro v H6 ⟨T, U, owU, hC, hT⟩
  have hT1 : T.length = 1 := by omega
  simp (disch := first | omega | assumption | decide | (simp <;> omega) | fail) [facts, ]
  refine (bnew_c v T 1 U H6 owU.le hC (by omega) (by omega) (by decide)).mono ?_
  rintro w H7 ⟨p, R, fv, tv, m, rfl, ow, hB, _⟩
  have hTl : (T.map tm0).length = 1 := by rw [List.length_map]; exact hT1
  have hTo : ∀ x ∈ T.map tm0, x.out = false := fun x hx => by
    obtain ⟨y, _, rfl⟩ := List.mem_map.1 hx
    rfl
  have ccu := cutover_c H7 p fv tv m [] [] (T.map tm0) (hB.le ow.le) (List.Perm.refl _) (kok hTl)
  rw [kcut hTl hTo] at ccu
  simp (disch := first | omega | assumption | decide | (simp <;> omega) | fail) [facts, ]
  refine ccu.mono ?_
  rintro v H8 ⟨rfl, rfl⟩
  have hle8 := Heap.le_trans hle7 (Heap.le_trans owU.all ow.all)
  have rxg := rx H8 hle8
  have r1g := hle8 _ _ r1b
  have heq : eqCells [.int, .int, .int] [.int .i64 1, .int .i64 2, .int .i64 0] [.int .i64 1, .int .i64 2, .int .i64 0] = some true := by simp [eqC_int, eqC_nil]
  simp (disch := first | omega | assumption | decide | (simp <;> omega) | fail) [facts, rxg, r1g, heq, k16]
  refine (cd0 H8).mono ?_
  rintro v H9 ⟨hle9, a, c, rfl, hsl9⟩
  simp (disch := first | omega | assumption | decide | (simp <;> omega) | fail) [facts, ]
  exact ⟨_, Heap.le_refl _, Heap.le_trans hle4 (Heap.le_trans hle8 hle9)⟩
end Go.Proofs.YtfpighmafofoeaaDoor.GL
