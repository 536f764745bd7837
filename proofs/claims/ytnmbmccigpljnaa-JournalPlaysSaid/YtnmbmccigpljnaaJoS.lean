/- Layer 5: what fits a new journal goes into a full one in the place of all. -/
import Derived.Test.YtnmbmccigpljnaaJoR
namespace Go.Proofs.Ytnmbmccigpljnaa.GL
open Go Go.RowKit
set_option maxRecDepth 10000
set_option pp.deepTerms.threshold 8
set_option pp.maxSteps 3000
set_option linter.unusedSimpArgs false
set_option linter.unusedVariables false

section
variable {F RL RD H : Heap} {p pd : Nat} {d : DZ} {l : LZ} {rs news : List RZ} {c m : Nat}
/-- Something beside the journal changed. -/
theorem JH.beside {B H' B' : Heap} (j : JH F RL RD H p pd d l rs c m) (o1 : Off F B) (o2 : Off RL B) (o3 : Off RD B) (ow : Own H B H' B') : JH F RL RD H' p pd d l rs c m ∧ Off F B' ∧ Off RL B' ∧ Off RD B' := by
  obtain ⟨f1, f2⟩ := ow.frame j.two.fle o1
  obtain ⟨g1, g2⟩ := ow.frame j.two.ale o2
  obtain ⟨h1, h2⟩ := ow.frame j.two.ble o3
  exact ⟨⟨⟨f1, g1, h1, j.two.fa, j.two.fb, j.two.ab⟩, j.log, j.dsk, j.jn⟩, f2, g2, h2⟩
theorem JH.take {B : Heap} (j : JH F RL RD H p pd d l rs c m) (o1 : Off F B) (o2 : Off RL B) (o3 : Off RD B) (hB : Heap.le B H) : JH (joinH B F) RL RD H p pd d l rs c m ∧ Heap.le F (joinH B F) ∧ Heap.le B (joinH B F) :=
  ⟨⟨j.two.joinB hB o2 o3, j.log, j.dsk, j.jn⟩, join_right o1, join_left B F⟩
end
def alwInv (F : Heap) (p pd k s : Nat) (st : St) : Prop :=
  ∃ (i : Nat) (F' RL RD : Heap) (d : DZ) (l : LZ) (rs : List RZ), i ≤ 400 ∧ st.env 1 = .int .u8 k ∧ st.env 5 = .int .i64 s ∧ st.env 6 = .pointer (some ⟨pd, 0, none⟩) ∧ st.env 7 = .pointer (some ⟨p, 0, none⟩) ∧ st.env 10 = .int .i64 i ∧ st.env 11 = .int .i64 i ∧ JH F' RL RD st.heap p pd d l rs i s ∧ d.left ≤ 0 ∧ rs.length = i
def rowZ (k1 k : Nat) (n : Nat) : List RZ := (List.range n).map fun i => recS k1 k (i % 256) 7
theorem rowZ_succ (k1 k n : Nat) : rowZ k1 k (n + 1) = rowZ k1 k n ++ [recS k1 k (n % 256) 7] := by
  unfold rowZ; rw [List.range_succ, List.map_append]; rfl
theorem rowZ_len (k1 k n : Nat) : (rowZ k1 k n).length = n := by simp [rowZ]
theorem rowZ_good {k1 k : Nat} (hk : k < 256) (n : Nat) : ∀ r ∈ rowZ k1 k n, r.good := fun r hr => by
  unfold rowZ at hr
  obtain ⟨i, hi, rfl⟩ := List.mem_map.1 hr
  exact recS_good _ _ _ _ hk (by omega)
theorem framesB_ge {rs : List RZ} (h : ∀ r ∈ rs, r.good) : 42 * rs.length ≤ (framesB rs).length := by
  induction rs with
  | nil => simp [framesB]
  | cons r rs ih =>
    have := (putB_len (h r (by simp)).1).1
    have ih' := ih fun x hx => h x (by simp [hx])
    have e : framesB (r :: rs) = putB r ++ framesB rs := by simp [framesB]
    rw [e, List.length_append, List.length_cons]
    omega
def alw2Inv (F : Heap) (p pd k k1 s : Nat) (st : St) : Prop :=
  ∃ (i : Nat) (F' RL RD B : Heap) (d : DZ) (l : LZ) (rs : List RZ) (v : Value), st.env 1 = .int .u8 k ∧ st.env 5 = .int .i64 s ∧ st.env 6 = .pointer (some ⟨pd, 0, none⟩) ∧ st.env 7 = .pointer (some ⟨p, 0, none⟩) ∧ st.env 13 = v ∧ JH F' RL RD st.heap p pd d l rs 400 s ∧ d.left ≤ 0 ∧ rs.length ≤ 400 ∧
    (i = 0 ∨ (framesB (rowZ k1 k i)).length + 256 ≤ 16 * s) ∧ Heap.le B st.heap ∧ LstR B v 17 i (rowsC RZ.cells (rowZ k1 k i)) ∧ Off F' B ∧ Off RL B ∧ Off RD B
set_option maxHeartbeats 4000000 in
theorem jalways_law (sec k : Nat) (hsec : sec < 256) (hk : k < 256) (H : Heap) :
    ECalls Try.prog 5 #[.int .u8 sec, .int .u8 k] H fun v _ => v = .bool true := by
  refine ecalls_of_ewp (args := [_, _]) Try.func5 rfl rfl rfl (by simp [Try.ntmps5]) (by kernel_rfl) ?_
  obtain ⟨s0, hs0⟩ : ∃ q, q = sec % 60 := ⟨_, rfl⟩
  have s0I : (sec : Int) % 60 = (s0 : Int) := by omega
  obtain ⟨s, hs⟩ : ∃ q, q = s0 + 30 := ⟨_, rfl⟩
  have sI : (s0 : Int) + 30 = (s : Int) := by omega
  obtain ⟨k1, hk1⟩ : ∃ q, q = (k + 1) % 256 := ⟨_, rfl⟩
  have k1I : IntKind.wrap .u8 ((k : Int) + 1) = (k1 : Int) := by rw [IntKind.wrap_u8]; omega
  simp (disch := first | omega | assumption | decide | (simp <;> omega) | fail) [facts, ]
  refine (known_c H).mono ?_
  rintro v H1 ⟨rfl, hl1⟩
  simp (disch := first | omega | assumption | decide | (simp <;> omega) | fail) [facts, s0I, sI]
  refine (newJ s (by omega) (by omega) H1).mono ?_
  rintro v H2 ⟨pd, RD, rfl, j2⟩
  simp (disch := first | omega | assumption | decide | (simp <;> omega) | fail) [facts, ]
  refine (openN j2 (by decide) rfl (by decide)).mono ?_
  rintro v H3 ⟨p, a3, cp3, F3, RL, l, rfl, hF3, j3, _, _, hu3⟩
  simp (disch := first | omega | assumption | decide | (simp <;> omega) | fail) [facts, ]
  refine w_cutB (alwInv F3 p pd k s) ?_ ?_
  · refine w_loop (alwInv F3 p pd k s) (fun st => 400 - (intOf (st.env 11)).toNat) ?_ ?_
    · exact ⟨0, F3, RL, RD, _, l, [], by omega, by simp, by simp, by simp, by simp, by simp, by simp, j3, by rw [newZ_left]; decide, rfl⟩
    clear j3 j2 hu3
    rintro ⟨env, G⟩ ⟨i, F4, RL4, RD4, d4, l4, rs, hi, e1, e5, e6, e7, e10, e11, j4, hd4, hrs⟩
    simp only at e1 e5 e6 e7 e10 e11 j4
    by_cases hlt : i < 400
    case neg =>
      have hltI : ¬ (i : Int) < 400 := by omega
      simp (disch := first | omega | assumption | decide | (simp <;> omega) | fail) [facts, e1, e5, e6, e7, e10, e11, hltI]
      exact ⟨i, F4, RL4, RD4, d4, l4, rs, hi, by simp [e1], by simp [e5], by simp [e6], by simp [e7], by simp [e10], by simp [e11], j4, hd4, hrs⟩
    have hltI : (i : Int) < 400 := by omega
    obtain ⟨i8, hi8⟩ : ∃ q, q = i % 256 := ⟨_, rfl⟩
    have i8I : IntKind.wrap .u8 (i : Int) = (i8 : Int) := by rw [IntKind.wrap_u8]; omega
    obtain ⟨r, hr⟩ : ∃ r, r = recS k k i8 i := ⟨_, rfl⟩
    have hrg : r.good := by rw [hr]; exact recS_good _ _ _ _ hk (by omega)
    have hc := fun H => rec_c k k i8 i hk hk (by omega) (by omega) H r hr
    simp (disch := first | omega | assumption | decide | (simp <;> omega) | fail) [facts, e1, e5, e6, e7, e10, e11, hltI, i8I]
    refine (hc _).mono ?_
    rintro v H5 ⟨rfl, hl5⟩
    simp (disch := first | omega | assumption | decide | (simp <;> omega) | fail) [facts, e1, e5, e6, e7, e10, e11]
    refine fresh_intro fun b9 hb9 => ?_
    rw [spl_rec r]
    generalize e9 : upd _ b9 _ = H10 at *
    obtain ⟨j10, hF10, q10, r10, hl10⟩ := (j4.grow hl5).box hb9 e9
    generalize upd F4 b9 _ = F10 at *
    simp (disch := first | omega | assumption | decide | (simp <;> omega) | fail) [facts, ]
    refine (addJ j10 (rec_row q10) (by simpa using hrg) (by decide) (by decide) (by omega) (by omega)).mono ?_
    rintro v H11 ⟨RL11, RD11, d11, l11, e11', rfl, hh⟩
    rcases hh with ⟨rfl, h2, h3, h4, h5⟩ | ⟨rfl, h2, h3, h4⟩ | ⟨_, _, _, _, h3, _⟩
    · simp (disch := first | omega | assumption | decide | (simp <;> omega) | fail) [facts, e1, e5, e6, e7, e10, e11]
      exact ⟨_, Heap.le_refl _, ⟨i + 1, F10, RL11, RD11, d11, l11, rs ++ [r], by omega, by simp [e1], by simp [e5], by simp [e6], by simp [e7], by simp, by simp, h2, by rw [h5 hd4]; exact hd4, by simp; omega⟩, by simp [intOf, e11]; omega⟩
    · simp (disch := first | omega | assumption | decide | (simp <;> omega) | fail) [facts, e1, e5, e6, e7, e10, e11]
      exact ⟨i, F10, RL11, RD11, d4, l4, rs, hi, by simp [e1], by simp [e5], by simp [e6], by simp [e7], by simp [e10], by simp [e11], h2, hd4, hrs⟩
    · omega
  rintro ⟨env, G⟩ ⟨i, F4, RL4, RD4, d4, l4, rs, hi, e1, e5, e6, e7, e10, e11, j4, hd4, hrs⟩
  simp only at e1 e5 e6 e7 e10 e11 j4
  clear j3 j2 hu3
  simp (disch := first | omega | assumption | decide | (simp <;> omega) | fail) [facts, e1, e5, e6, e7, e10, e11]
  refine (lenN j4 hrs).mono ?_
  rintro v H5 ⟨rfl, rfl⟩
  simp (disch := first | omega | assumption | decide | (simp <;> omega) | fail) [facts, e1, e5, e6, e7, e10, e11]
  refine w_cutB (alw2Inv F4 p pd k k1 s) ?_ ?_
  · refine w_loop (alw2Inv F4 p pd k k1 s) (fun st => 100 - (lenS (st.env 13))) ?_ ?_
    · exact ⟨0, F4, RL4, RD4, fun _ => none, d4, l4, rs, .slice none 0 0, by simp [e1], by simp [e5], by simp [e6], by simp [e7], by simp, j4.mono hi, hd4, by omega, .inl rfl, (fun _ _ h => by cases h), LstR.nil _ _, Off.nil, Off.nil, Off.nil⟩
    clear j4 e1 e5 e6 e7 e10 e11
    rintro ⟨env, G⟩ ⟨i, F6, RL6, RD6, B, d6, l6, rs6, v, e1, e5, e6, e7, e13, j6, hd6, hrs6, hsz, hB, lst, o1, o2, o3⟩
    simp only at e1 e5 e6 e7 e13 j6 hB
    have gr := rowZ_good (k1 := k1) hk i
    have lr := rowZ_len k1 k i
    have f42 := framesB_ge gr
    rw [lr] at f42
    have hsn := rowZ_succ k1 k i
    obtain ⟨i8, hi8⟩ : ∃ q, q = i % 256 := ⟨_, rfl⟩
    have i8I : IntKind.wrap .u8 (i : Int) = (i8 : Int) := by rw [IntKind.wrap_u8]; omega
    obtain ⟨r, hr⟩ : ∃ r, r = recS k1 k i8 7 := ⟨_, rfl⟩
    have hrg : r.good := by rw [hr]; exact recS_good _ _ _ _ hk (by omega)
    have hrl := framesB_one_le hrg
    rw [← hi8, ← hr] at hsn
    have hfs : (framesB (rowZ k1 k (i + 1))).length = (framesB (rowZ k1 k i)).length + (framesB [r]).length := by rw [hsn, framesB_app, List.length_append]
    have hc := fun H => rec_c k1 k i8 7 (by omega) hk (by omega) (by omega) H r hr
    obtain ⟨av, cv, rfl, hsv, hcv⟩ := lst.sl hB
    obtain ⟨z, hz⟩ : ∃ z, (framesB (rowZ k1 k i)).length = z := ⟨_, rfl⟩
    simp (disch := first | omega | assumption | decide | (simp <;> omega) | fail) [facts, e1, e5, e6, e7, e13]
    refine (size_c av i cv (rowZ k1 k i) G hsv gr (by omega)).mono ?_
    rintro v H7 ⟨rfl, hl7⟩
    rw [hz] at hfs hsz f42 ⊢
    have hz0 : i = 0 → z = 0 := fun h => by
      rw [← hz, h]; rfl
    have hzb : z ≤ 2000 := by omega
    by_cases hgo : (z : Int) + 70 ≤ 16 * (s : Int) - 256
    case neg =>
      simp (disch := first | omega | assumption | decide | (simp <;> omega) | fail) [facts, e1, e5, e6, e7, e13, hgo]
      exact ⟨i, F6, RL6, RD6, B, d6, l6, rs6, _, by simp [e1], by simp [e5], by simp [e6], by simp [e7], by simp [e13], j6.grow hl7, hd6, hrs6, by rw [hz]; exact hsz, Heap.le_trans hB hl7, lst, o1, o2, o3⟩
    simp (disch := first | omega | assumption | decide | (simp <;> omega) | fail) [facts, e1, e5, e6, e7, e13, hgo, k1I, i8I]
    refine (hc _).mono ?_
    rintro v H8 ⟨rfl, hl8⟩
    simp (disch := first | omega | assumption | decide | (simp <;> omega) | fail) [facts, e1, e5, e6, e7, e13]
    refine fresh_intro fun b9 hb9 => ?_
    rw [spl_rec r]
    have hB9 := Heap.le_trans (Heap.le_trans hB hl7) (Heap.le_trans hl8 (le_upd (.row true 0 (rowsC RZ.cells [r]) 0) hb9))
    have j9 := ((j6.grow hl7).grow hl8).grow (le_upd (.row true 0 (rowsC RZ.cells [r]) 0) hb9)
    have s9 := rec_row (upd_same H8 b9 (.row true 0 (rowsC RZ.cells [r]) 0))
    generalize upd H8 b9 _ = H9 at *
    simp (disch := first | omega | assumption | decide | (simp <;> omega) | fail) [facts, e1, e5, e6, e7, e13]
    refine LstR.app (e := 42) (s := 17) (nbs := 136) (z := .agg #[.int .i64 0, .int .u16 0, .int .u32 0, .string ByteArray.empty, .int .i64 0, .int .i64 0, .int .i64 0, .int .i64 0, .int .i64 0, .int .i64 0, .int .i64 0, .int .i64 0, .int .i64 0, .int .i64 0, .int .i64 0, .int .i64 0, .int .i64 0]) (m := 1) (ys := rowsC RZ.cells [r]) (by simp [facts]) (by simp [facts]) (by simp [facts]) (by simp [facts]) rfl (by decide) lst (Own.refl hB9)
      (src_sl (e1 := 42) (z := .agg #[.int .i64 0, .int .u16 0, .int .u32 0, .string ByteArray.empty, .int .i64 0, .int .i64 0, .int .i64 0, .int .i64 0, .int .i64 0, .int .i64 0, .int .i64 0, .int .i64 0, .int .i64 0, .int .i64 0, .int .i64 0, .int .i64 0, .int .i64 0]) (by simp [facts]) (by simp [facts]) (by simp [facts]) s9) rfl (rows_one [r]) (by omega) ?_
    intro v' H10 B10 ow10 lst10 _ _
    rw [← rows_app, ← hsn] at lst10
    obtain ⟨j10, p1, p2, p3⟩ := j9.beside o1 o2 o3 ow10
    obtain ⟨av', cv', rfl, _, _⟩ := lst10.sl ow10.le
    simp (disch := first | omega | assumption | decide | (simp <;> omega) | fail) [facts, e1, e5, e6, e7, e13]
    exact ⟨_, Heap.le_refl _, ⟨i + 1, F6, RL6, RD6, B10, d6, l6, rs6, _, by simp [e1], by simp [e5], by simp [e6], by simp [e7], by simp, j10, hd6, hrs6, .inr (by rw [hfs]; omega), ow10.le, lst10, p1, p2, p3⟩, by simp [lenS, e13]; omega⟩
  rintro ⟨env, G⟩ ⟨i, F6, RL6, RD6, B, d6, l6, rs6, v, e1, e5, e6, e7, e13, j6, hd6, hrs6, hsz, hB, lst, o1, o2, o3⟩
  simp only at e1 e5 e6 e7 e13 j6 hB
  clear j4 e10 e11
  have gr := rowZ_good (k1 := k1) hk i
  have lr := rowZ_len k1 k i
  have f42 := framesB_ge gr
  rw [lr] at f42
  obtain ⟨j7, hF7, hB7⟩ := j6.take o1 o2 o3 hB
  obtain ⟨av, cv, rfl, hsv, hcv⟩ := lst.sl hB7
  generalize rowZ k1 k i = xs at *
  obtain ⟨z, hz⟩ : ∃ z, (framesB xs).length = z := ⟨_, rfl⟩
  rw [hz] at hsz f42
  have hh := j7.jn.half
  have hz0 : i = 0 → z = 0 := fun h => by
    have : xs = [] := List.eq_nil_of_length_eq_zero (by rw [lr, h])
    rw [← hz, this]; rfl
  simp (disch := first | omega | assumption | decide | (simp <;> omega) | fail) [facts, e1, e5, e6, e7, e13]
  refine (replJ j7 hsv gr (by omega) hcv (by decide)).mono ?_
  rintro v H8 ⟨RL8, RD8, d8, l8, e8, rfl, hh8⟩
  obtain ⟨rfl, j8⟩ : e8 = 0 ∧ JH _ RL8 RD8 H8 p pd d8 l8 xs 401 s := by
    rw [hz] at hh8
    rcases hh8 with ⟨h1, h2, h3, h4, h5⟩ | ⟨_, _, h3⟩ | ⟨_, _, _, _, h3, _⟩
    · exact ⟨h1, h2⟩
    · unfold secsN at h3; omega
    · omega
  clear hh8
  simp (disch := first | omega | assumption | decide | (simp <;> omega) | fail) [facts, e1, e5, e6, e7, e13]
  refine (openN j8.disk (by decide) lr (by omega)).mono ?_
  rintro v H9 ⟨p9, a9, c9, F9, RL9, l9, rfl, hF9, j9, s9, hc9, _⟩
  simp (disch := first | omega | assumption | decide | (simp <;> omega) | fail) [facts, e1, e5, e6, e7, e13]
  refine (recs_c a9 av i i c9 cv xs xs H9 (s9.le j9.two.fle) (hsv.le (Heap.le_trans hF9 j9.two.fle)) (by omega)).mono ?_
  rintro v H10 ⟨rfl, rfl⟩
  simp (disch := first | omega | assumption | decide | (simp <;> omega) | fail) [facts, e1, e5, e6, e7, e13]
  exact ⟨_, Heap.le_refl _⟩
end Go.Proofs.Ytnmbmccigpljnaa.GL
