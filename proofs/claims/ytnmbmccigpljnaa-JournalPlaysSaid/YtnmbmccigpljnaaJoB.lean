/- Layer 5: a sector's piece; read. -/
import Derived.Test.YtnmbmccigpljnaaJoA
namespace Go.Proofs.Ytnmbmccigpljnaa.GL
open Go Go.RowKit
set_option maxRecDepth 10000
set_option pp.deepTerms.threshold 8
set_option pp.maxSteps 3000
set_option linter.unusedSimpArgs false
set_option linter.unusedVariables false

theorem x_max3 {P : Program} {s : St} {K : Kont} {ts : Array TypeId} {x y z : Operand} : xop P s (.call ⟨.builtin .max, #[x, y, z], ts⟩) K = onSome ((max2 (s.eval x) (s.eval y)).bind fun v => max2 v (s.eval z)) K s.heap := by
  simp only [xop, eop, onSome, qop]
  simp only [List.map, foldO]
  cases hm : max2 (s.eval x) (s.eval y) with
  | none => simp
  | some v =>
    simp only [Option.bind_some]
    cases hn : max2 v (s.eval z) with
    | none => simp
    | some u => simp
theorem Own.aside {H R G R0 : Heap} (a : Own H R G R0) {b : Nat} (hb : H b = none) (h0 : R0 b = none) (o : GObj) : Own H R (upd G b o) R0 := by
  refine ⟨fun i x h1 h2 => ?_, fun i x e => ?_⟩
  · obtain ⟨y, z⟩ := a.mv i x h1 h2
    have : i ≠ b := fun e => by subst e; rw [hb] at h2; cases h2
    exact ⟨y, by rw [upd_ne _ _ this]; exact z⟩
  · have : i ≠ b := fun e' => by subst e'; rw [h0] at e; cases e
    rw [upd_ne _ _ this]; exact a.le i x e
/-- A piece: its batch's number, its place, of how many, what it carries. -/
structure Pc where
  n : Nat
  pl : Nat
  ct : Nat
  b : List UInt8
def Sec.hn (s : Sec) : Nat := numN (s.b.take 4)
def Sec.tn (s : Sec) : Nat := numN (s.b.drop 60)
def Sec.pl (s : Sec) : Nat := numN ((s.b.drop 4).take 2)
def Sec.ct (s : Sec) : Nat := numN ((s.b.drop 6).take 2)
def Sec.sz (s : Sec) : Nat := (s.b.getD 8 0).toNat
def Sec.ok (s : Sec) : Prop := s.hn = s.tn ∧ s.hn ≠ 0 ∧ s.sz ≤ 51
instance (s : Sec) : Decidable s.ok := inferInstanceAs (Decidable (_ ∧ _ ∧ _))
def Sec.pc (s : Sec) : Pc := if s.ok then ⟨s.hn, s.pl, s.ct, (s.b.drop 9).take s.sz⟩ else ⟨0, 0, 0, []⟩
theorem Sec.hn_lt (s : Sec) : s.hn < 4294967296 := by
  have := numN_lt (bs := s.b.take 4) (m := 4) (by simp; omega) (by decide)
  exact this
theorem Sec.tn_lt (s : Sec) : s.tn < 4294967296 := by
  have := numN_lt (bs := s.b.drop 60) (m := 4) (by simp [s.len]) (by decide)
  exact this
theorem Sec.pl_lt (s : Sec) : s.pl < 65536 := by
  have := numN_lt (bs := (s.b.drop 4).take 2) (m := 2) (by simp; omega) (by decide)
  exact this
theorem Sec.ct_lt (s : Sec) : s.ct < 65536 := by
  have := numN_lt (bs := (s.b.drop 6).take 2) (m := 2) (by simp; omega) (by decide)
  exact this
def lgRow (pd half base used last : Nat) (v : Value) : List Value := [.pointer (some ⟨pd, 0, none⟩), .int .i64 half, .int .i64 base, .int .i64 used, .int .u32 last, v]
def pcV (x : Pc) (a : Option Addr) (m c : Nat) : Value := .agg #[.int .u32 x.n, .int .i64 x.pl, .int .i64 x.ct, .slice a m c]
set_option maxHeartbeats 1600000 in
theorem jread_c {RD RL H : Heap} {pd p half base used last : Nat} {lv : Value} {d : DZ} (hD : Heap.le RD H) (hd : Dsk RD pd d) (hL : Heap.le RL H) (hrow : RL p = some (.row true 0 (lgRow pd half base used last lv) 0)) (hl : last < 4294967296)
    (j : Nat) (hdn : d.down = false) {s : Sec} (hs : d.now[j]? = some s) :
    ECalls Try.prog 37 #[.pointer (some ⟨p, 0, none⟩), .int .i64 j] H fun v H' => Own H RL H' (upd RL p (.row true 0 (lgRow pd half base used (max last (max s.hn s.tn)) lv) 0)) ∧
      ∃ a m c, v = .tuple #[pcV s.pc a m c, .bool (decide s.ok), .int .i64 0] ∧ SlA H' a m 1 (s.pc.b.map u8V) ∧ m ≤ c := by
  refine ecalls_of_ewp (args := [_, _]) Try.func37 rfl rfl rfl (by simp [Try.ntmps37]) (by kernel_rfl) ?_
  unfold lgRow at hrow
  have own := Own.refl hL
  have rp := hL _ _ hrow
  simp (disch := first | omega | assumption | decide | (simp <;> omega) | fail) [facts, ]
  refine fresh_intro fun b4 hb4 => ?_
  have n4 : p ≠ b4 := ne_of_fresh hb4 rp
  replace rp := upd_other (o := .row true 0 [.int .u32 0, .int .i64 0, .int .i64 0, .slice none 0 0] 0) hb4 rp
  have r4 := upd_same H b4 (.row true 0 [.int .u32 0, .int .i64 0, .int .i64 0, .slice none 0 0] 0)
  have hle := le_upd (.row true 0 [.int .u32 0, .int .i64 0, .int .i64 0, .slice none 0 0] 0) hb4
  have hb4L : RL b4 = none := le_of_none hL hb4
  replace own := own.grow hle
  replace hD := Heap.le_trans hD hle
  generalize upd H b4 (.row true 0 [.int .u32 0, .int .i64 0, .int .i64 0, .slice none 0 0] 0) = H1 at *
  simp (disch := first | omega | assumption | decide | (simp <;> omega) | fail) [facts, rp]
  refine (diskRead_in hD hd j hdn hs).mono ?_
  rintro v H2 ⟨hle2, a, c, rfl, hout⟩
  obtain ⟨bb, oo, room, rfl, hbn, rb, hcap⟩ : ∃ bb oo room, a = some ⟨bb, oo, none⟩ ∧ H1 bb = none ∧ H2 bb = some (.row true oo s.cells room) ∧ 64 ≤ c := by
    rcases hout with ⟨h0, _⟩ | ⟨b, o, cap, room, hb, ho⟩
    · cases h0
    · have hi := ho.is
      injection hi with e1 e2 e3
      exact ⟨b, o, room, e1, hb, ho.row, by rw [e3]; exact ho.capOk⟩
  have hsl_of : ∀ H : Heap, H bb = some (.row true oo s.cells room) → SlA H (some ⟨bb, oo, none⟩) 64 1 (s.b.map u8V) := fun H h =>
    SlA.row h (Nat.le_refl _) (by simp [s.len]) (by simp) (by rw [Nat.sub_self, List.drop_zero, Nat.mul_one]; exact List.take_of_length_le (by simp [s.len]))
  have hbp : bb ≠ p := fun e => by subst e; rw [hbn] at rp; cases rp
  have hsl' := hsl_of H2 rb
  replace rp := hle2 _ _ rp
  replace r4 := hle2 _ _ r4
  replace own := own.grow hle2
  clear hle2 hout hle
  have s1 := hsl'.hd (h := 4) (by decide)
  have s2 := hsl'.tlL 60 (by decide)
  have s3 := hsl'.midL 4 2 (by decide)
  have s4 := hsl'.midL 6 2 (by decide)
  have hb8 : s.b[8]? = some (s.b.getD 8 0) := by rw [List.getD_eq_getElem?_getD, List.getElem?_eq_getElem (by rw [s.len]; decide)]; rfl
  have s5 := hsl'.at hb8
  have hnl := s.hn_lt
  have tnl := s.tn_lt
  have pll := s.pl_lt
  have ctl := s.ct_lt
  have hszl : s.sz < 256 := UInt8.toNat_lt _
  have c60 : ¬ c = 60 := by omega
  have c4 : ¬ c = 4 := by omega
  have c6 : ¬ c = 6 := by omega
  have c9 : ¬ c = 9 := by omega
  have f1 : numN (List.take 4 s.b) = s.hn := rfl
  have f2 : numN (List.drop 60 s.b) = s.tn := rfl
  have f3 : numN (List.take 2 (List.drop 4 s.b)) = s.pl := rfl
  have f4 : numN (List.take 2 (List.drop 6 s.b)) = s.ct := rfl
  have n1 := fun H h => num1_c (some ⟨bb, oo, none⟩) 4 c (List.take 4 s.b) H h (by decide)
  have n2 := fun H h => num1_c (some ⟨bb, oo + 60, none⟩) 4 (c - 60) (List.drop 60 s.b) H h (by decide)
  have n3 := fun H h => num1_c (some ⟨bb, oo + 4, none⟩) 2 (c - 4) (List.take 2 (List.drop 4 s.b)) H h (by decide)
  have n4' := fun H h => num1_c (some ⟨bb, oo + 6, none⟩) 2 (c - 6) (List.take 2 (List.drop 6 s.b)) H h (by decide)
  rw [f1] at n1
  rw [f2] at n2
  rw [f3] at n3
  rw [f4] at n4'
  simp (disch := first | omega | assumption | decide | (simp <;> omega) | fail) [facts, ]
  refine (n1 _ s1).mono ?_
  rintro v H3 ⟨⟨t1, rfl⟩, rfl⟩
  simp (disch := first | omega | assumption | decide | (simp <;> omega) | fail) [facts, c60]
  refine (n2 _ s2).mono ?_
  rintro v H3 ⟨⟨t2, rfl⟩, rfl⟩
  have hmx : max (max (last : Int) (s.hn : Int)) (s.tn : Int) = ((max last (max s.hn s.tn) : Nat) : Int) := by omega
  obtain ⟨mx, hmxd⟩ : ∃ m, m = max last (max s.hn s.tn) := ⟨_, rfl⟩
  rw [← hmxd] at hmx
  have own2 := own.set hrow (.row true 0 (lgRow pd half base used mx lv) 0)
  rw [← hmxd]
  unfold lgRow at own2 ⊢
  simp (disch := first | omega | assumption | decide | (simp <;> omega) | fail) [facts, rp, x_max3, hmx]
  replace rb : upd H3 p (.row true 0 [.pointer (some ⟨pd, 0, none⟩), .int .i64 half, .int .i64 base, .int .i64 used, .int .u32 mx, lv] 0) bb = some (.row true oo s.cells room) := (upd_ne _ _ hbp).trans rb
  replace r4 : upd H3 p (.row true 0 [.pointer (some ⟨pd, 0, none⟩), .int .i64 half, .int .i64 base, .int .i64 used, .int .u32 mx, lv] 0) b4 = some (.row true 0 [.int .u32 0, .int .i64 0, .int .i64 0, .slice none 0 0] 0) := (upd_ne _ _ n4.symm).trans r4
  generalize upd H3 p (.row true 0 [.pointer (some ⟨pd, 0, none⟩), .int .i64 half, .int .i64 base, .int .i64 used, .int .u32 mx, lv] 0) = H5 at *
  have hb4L2 : upd RL p (.row true 0 [.pointer (some ⟨pd, 0, none⟩), .int .i64 half, .int .i64 base, .int .i64 used, .int .u32 mx, lv] 0) b4 = none := (upd_ne _ _ n4.symm).trans hb4L
  generalize upd RL p (.row true 0 [.pointer (some ⟨pd, 0, none⟩), .int .i64 half, .int .i64 base, .int .i64 used, .int .u32 mx, lv] 0) = RL2 at *
  have hsl5 := hsl_of H5 rb
  have u3 := hsl5.midL 4 2 (by decide)
  have u4 := hsl5.midL 6 2 (by decide)
  have u5 := hsl5.at hb8
  simp (disch := first | omega | assumption | decide | (simp <;> omega) | fail) [facts, c4]
  refine (n3 _ u3).mono ?_
  rintro v H6 ⟨⟨t3, rfl⟩, rfl⟩
  simp (disch := first | omega | assumption | decide | (simp <;> omega) | fail) [facts, c6]
  refine (n4' _ u4).mono ?_
  rintro v H6 ⟨⟨t4, rfl⟩, rfl⟩
  have c8 : s.cells[8]? = some (.int .u8 (s.sz : Int)) := by unfold Sec.cells; rw [List.getElem?_map, hb8]; rfl
  have u6 : rd1U (H6 bb) (oo + 8) = some (.int .u8 (s.sz : Int)) := by rw [rb]; simp [rd1U, (List.getElem?_eq_some_iff.1 c8).2]
  have u7 := fun h => hsl5.midL 9 s.sz h
  by_cases h1 : s.hn = s.tn
  case neg =>
    have hno : ¬ s.ok := fun h => h1 h.1
    have hpc : s.pc = ⟨0, 0, 0, []⟩ := if_neg hno
    have h1I : ¬ (s.hn : Int) = (s.tn : Int) := by omega
    simp (disch := first | omega | assumption | decide | (simp <;> omega) | fail) [facts, u6, h1, h1I, r4]
    refine ⟨_, Heap.le_refl _, own2.aside hb4 hb4L2 _, none, 0, 0, ?_, ?_, Nat.le_refl _⟩
    · rw [hpc]; simp [pcV, hno]
    · rw [hpc]; exact SlA.nil _ _
  by_cases h2 : s.tn = 0
  case pos =>
    have hno : ¬ s.ok := fun h => h.2.1 (h1.trans h2)
    have hpc : s.pc = ⟨0, 0, 0, []⟩ := if_neg hno
    simp (disch := first | omega | assumption | decide | (simp <;> omega) | fail) [facts, u6, h1, h2, r4]
    refine ⟨_, Heap.le_refl _, own2.aside hb4 hb4L2 _, none, 0, 0, ?_, ?_, Nat.le_refl _⟩
    · rw [hpc]; simp [pcV, hno]
    · rw [hpc]; exact SlA.nil _ _
  by_cases h3 : s.sz ≤ 51
  case neg =>
    have hno : ¬ s.ok := fun h => h3 h.2.2
    have hpc : s.pc = ⟨0, 0, 0, []⟩ := if_neg hno
    have h3I : (51 : Int) < (s.sz : Int) := by omega
    simp (disch := first | omega | assumption | decide | (simp <;> omega) | fail) [facts, u6, h1, h2, h3, h3I, r4]
    refine ⟨_, Heap.le_refl _, own2.aside hb4 hb4L2 _, none, 0, 0, ?_, ?_, Nat.le_refl _⟩
    · rw [hpc]; simp [pcV, hno]
    · rw [hpc]; exact SlA.nil _ _
  have hok : s.ok := ⟨h1, fun h => h2 (h1.symm.trans h), h3⟩
  have hpc : s.pc = ⟨s.hn, s.pl, s.ct, (s.b.drop 9).take s.sz⟩ := if_pos hok
  have h3I : ¬ (51 : Int) < (s.sz : Int) := by omega
  simp (disch := first | omega | assumption | decide | (simp <;> omega) | fail) [facts, u6, h1, h2, h3, h3I, r4, c9]
  refine ⟨_, Heap.le_refl _, own2.aside hb4 hb4L2 _, some ⟨bb, oo + 9, none⟩, s.sz, c - 9, ?_, ?_, by omega⟩
  · rw [hpc]; simp [pcV, hok, h1]; omega
  · rw [hpc]
    have hbb4 : bb ≠ b4 := fun e => by
      subst e
      have e1 := rb.symm.trans r4
      injection e1 with e1
      injection e1 with _ _ e1 _
      have := congrArg List.length e1
      simp at this
    exact (hsl_of _ ((upd_ne _ _ hbb4).trans rb)).midL 9 s.sz (by omega)
end Go.Proofs.Ytnmbmccigpljnaa.GL
