/- Layer 5: the journal's calls, with what is on the disk. -/
import Derived.Test.YtnmbmccigpljnaaJoN
namespace Go.Proofs.Ytnmbmccigpljnaa.GL
open Go Go.RowKit
set_option maxRecDepth 10000
set_option pp.deepTerms.threshold 8
set_option pp.maxSteps 3000
set_option linter.unusedSimpArgs false
set_option linter.unusedVariables false

structure JH (F RL RD H : Heap) (p pd : Nat) (d : DZ) (l : LZ) (rs : List RZ) (c m : Nat) : Prop where
  two : TwoO F RL RD H
  log : ∃ lv, Lg RL p pd l lv
  dsk : Dsk RD pd d
  jn : Jn d l rs c m
structure JD (F RD H : Heap) (pd : Nat) (d : DZ) (rs : List RZ) (c m : Nat) : Prop where
  two : TwoO F (fun _ => none) RD H
  dsk : Dsk RD pd d
  jd : Jd d rs c m
theorem TwoO.only {F A B H : Heap} (t : TwoO F A B H) : TwoO F (fun _ => none) B H := ⟨t.fle, (fun _ _ h => by cases h), t.ble, (fun _ _ _ => rfl), t.fb, (fun _ _ h => by cases h)⟩
theorem Off.of_le {F G R : Heap} (h : Off G R) (hl : Heap.le F G) : Off F R := fun b o e => h b o (hl b o e)
section
variable {F RL RD H : Heap} {p pd : Nat} {d : DZ} {l : LZ} {rs news : List RZ} {c m : Nat}
theorem JH.disk (j : JH F RL RD H p pd d l rs c m) : JD F RD H pd d rs c m := ⟨j.two.only, j.dsk, j.jn.toJd⟩
theorem JH.grow {H' : Heap} (j : JH F RL RD H p pd d l rs c m) (hl : Heap.le H H') : JH F RL RD H' p pd d l rs c m := ⟨j.two.grow hl, j.log, j.dsk, j.jn⟩
theorem JD.grow {H' : Heap} (j : JD F RD H pd d rs c m) (hl : Heap.le H H') : JD F RD H' pd d rs c m := ⟨j.two.grow hl, j.dsk, j.jd⟩
theorem JH.less {F0 : Heap} (j : JH F RL RD H p pd d l rs c m) (hl : Heap.le F0 F) : JH F0 RL RD H p pd d l rs c m := ⟨j.two.less hl, j.log, j.dsk, j.jn⟩
theorem JD.less {F0 : Heap} (j : JD F RD H pd d rs c m) (hl : Heap.le F0 F) : JD F0 RD H pd d rs c m := ⟨j.two.less hl, j.dsk, j.jd⟩
/-- What a call made is known from now on. -/
theorem JH.join {H' B : Heap} (j : JH F RL RD H p pd d l rs c m) (ow : Own H (fun _ => none) H' B) : JH (joinH B F) RL RD H' p pd d l rs c m ∧ Heap.le F (joinH B F) ∧ Heap.le B (joinH B F) :=
  ⟨⟨(j.two.join ow).1, j.log, j.dsk, j.jn⟩, (j.two.join ow).2, join_left B F⟩
theorem JD.join {H' B : Heap} (j : JD F RD H pd d rs c m) (ow : Own H (fun _ => none) H' B) : JD (joinH B F) RD H' pd d rs c m ∧ Heap.le F (joinH B F) ∧ Heap.le B (joinH B F) :=
  ⟨⟨(j.two.join ow).1, j.dsk, j.jd⟩, (j.two.join ow).2, join_left B F⟩
theorem JH.keep (j : JH F RL RD H p pd d l rs c m) {b : Nat} (hb : H b = none) (o : GObj) : JH (upd F b o) RL RD (upd H b o) p pd d l rs c m := ⟨j.two.keep hb o, j.log, j.dsk, j.jn⟩
theorem JD.keep (j : JD F RD H pd d rs c m) {b : Nat} (hb : H b = none) (o : GObj) : JD (upd F b o) RD (upd H b o) pd d rs c m := ⟨j.two.keep hb o, j.dsk, j.jd⟩
theorem JH.box {H' : Heap} {b : Nat} {o : GObj} (j : JH F RL RD H p pd d l rs c m) (hb : H b = none) (e : upd H b o = H') : JH (upd F b o) RL RD H' p pd d l rs c m ∧ Heap.le F (upd F b o) ∧ (upd F b o) b = some o ∧ H' b = some o ∧ Heap.le H H' := by
  subst e
  exact ⟨j.keep hb o, le_upd o (le_of_none j.two.fle hb), upd_same _ _ _, upd_same _ _ _, le_upd o hb⟩
theorem JD.box {H' : Heap} {b : Nat} {o : GObj} (j : JD F RD H pd d rs c m) (hb : H b = none) (e : upd H b o = H') : JD (upd F b o) RD H' pd d rs c m ∧ Heap.le F (upd F b o) ∧ (upd F b o) b = some o ∧ H' b = some o ∧ Heap.le H H' := by
  subst e
  exact ⟨j.keep hb o, le_upd o (le_of_none j.two.fle hb), upd_same _ _ _, upd_same _ _ _, le_upd o hb⟩
/-- The log stays as it is while the disk is looked at. -/
theorem JH.aside (j : JH F RL RD H p pd d l rs c m) : JD (joinH RL F) RD H pd d rs c m ∧ Heap.le F (joinH RL F) ∧ Heap.le RL (joinH RL F) := by
  refine ⟨⟨⟨fun b o h => ?_, (fun _ _ h => by cases h), j.two.ble, (fun _ _ _ => rfl), fun b o h => ?_, (fun _ _ h => by cases h)⟩, j.dsk, j.jn.toJd⟩, join_right j.two.fa, join_left RL F⟩
  · unfold joinH at h
    cases hr : RL b with
    | some x => rw [hr] at h; cases h; exact j.two.ale _ _ hr
    | none => rw [hr] at h; exact j.two.fle _ _ h
  · unfold joinH at h
    cases hr : RL b with
    | some x => exact j.two.ab b x hr
    | none => rw [hr] at h; exact j.two.fb b o h
theorem newJ (m : Nat) (h8 : 8 ≤ m) (hm : m ≤ 2400) (H : Heap) : ECalls Try.prog 11 #[.int .i64 m] H fun v H' => ∃ pd RD, v = .pointer (some ⟨pd, 0, none⟩) ∧ JD H RD H' pd (newZ m) [] 0 m := by
  refine (diskNew_c H m).mono ?_
  rintro v H' ⟨pd, RD, rfl, ow, hd⟩
  rw [show (min (max (m : Int) 0) 4096).toNat = m by omega] at hd
  exact ⟨pd, RD, rfl, ⟨⟨ow.all, (fun _ _ h => by cases h), ow.le, (fun _ _ _ => rfl), ow.off, (fun _ _ h => by cases h)⟩, hd, newJd m h8 hm⟩⟩
theorem jopen_few (hD : Heap.le RD H) (hd : Dsk RD pd d) (h8 : d.now.length < 8) : ECalls Try.prog 12 #[.pointer (some ⟨pd, 0, none⟩)] H fun v H' => v = .tuple #[.pointer none, .slice none 0 0, .int .i64 21] ∧ H' = H := by
  refine ecalls_of_ewp (args := [_]) Try.func12 rfl rfl rfl (by simp [Try.ntmps12]) (by kernel_rfl) ?_
  have hsame : d.kept.length = d.now.length := by
    obtain ⟨_, _, _, _, _, _, _, _, _, hd'⟩ := hd
    exact hd'.same.symm
  have cs := diskSectors_c hD hd
  rw [hsame] at cs
  have h8I : (d.now.length : Int) < 8 := by omega
  simp (disch := first | omega | assumption | decide | (simp <;> omega) | fail) [facts, ]
  refine cs.mono ?_
  rintro v H' ⟨rfl, rfl⟩
  simp (disch := first | omega | assumption | decide | (simp <;> omega) | fail) [facts, h8I]
theorem openJ (j : JD F RD H pd d rs c m) (hc : c < 4294967200) (few : rs.length ≤ 1000) : ECalls Try.prog 12 #[.pointer (some ⟨pd, 0, none⟩)] H fun v H' =>
    ∃ p a cp F' RL l, v = .tuple #[.pointer (some ⟨p, 0, none⟩), .slice a rs.length cp, .int .i64 0] ∧ Heap.le F F' ∧ JH F' RL RD H' p pd d l rs c m ∧ SlA F' a rs.length 17 (rowsC RZ.cells rs) ∧ rs.length ≤ cp ∧ l.used = (chosen d.now).used := by
  obtain ⟨hj, hl⟩ := j.jd.opened
  have hlen := j.jd.len
  refine (jopen_c j.two j.dsk j.jd.calm.up (by rw [hlen]; exact j.jd.ge) (by rw [hlen]; exact j.jd.le) j.jd.bytes j.jd.good few (by omega)).mono ?_
  rintro v H' ⟨p, sv, lv, B, RL, rfl, t, hle, lst, lg⟩
  obtain ⟨a, cp, rfl, hs, hcp⟩ := lst.sl (join_left B F)
  exact ⟨p, a, cp, _, RL, _, rfl, hle, ⟨t, ⟨lv, lg⟩, j.dsk, hj⟩, hs, hcp, rfl⟩
theorem lenJ (j : JH F RL RD H p pd d l rs c m) : ECalls Try.prog 17 #[.pointer (some ⟨p, 0, none⟩)] H fun v H' => v = .int .i64 rs.length ∧ H' = H := by
  obtain ⟨lv, lg⟩ := j.log
  have := jlen_c j.two.ale lg
  rw [j.jn.recs] at this
  exact this
theorem freeJ (j : JH F RL RD H p pd d l rs c m) : ECalls Try.prog 13 #[.pointer (some ⟨p, 0, none⟩)] H fun v H' => v = .int .i64 (((l.half - l.used) * 51 : Nat) : Int) ∧ H' = H := by
  obtain ⟨lv, lg⟩ := j.log
  exact jfree_c j.two.ale lg
theorem lenN (j : JH F RL RD H p pd d l rs c m) {n : Nat} (hn : rs.length = n) : ECalls Try.prog 17 #[.pointer (some ⟨p, 0, none⟩)] H fun v H' => v = .int .i64 n ∧ H' = H := by
  subst hn; exact lenJ j
theorem openN (j : JD F RD H pd d rs c m) (hc : c < 4294967200) {n : Nat} (hn : rs.length = n) (few : n ≤ 1000) : ECalls Try.prog 12 #[.pointer (some ⟨pd, 0, none⟩)] H fun v H' =>
    ∃ p a cp F' RL l, v = .tuple #[.pointer (some ⟨p, 0, none⟩), .slice a n cp, .int .i64 0] ∧ Heap.le F F' ∧ JH F' RL RD H' p pd d l rs c m ∧ SlA F' a n 17 (rowsC RZ.cells rs) ∧ n ≤ cp ∧ l.used = (chosen d.now).used := by
  subst hn; exact openJ j hc few
def secA (news : List RZ) : Nat := if news = [] then 0 else secsN (framesB news).length
theorem Jn.mono {c' : Nat} (h : Jn d l rs c m) (hc : c ≤ c') : Jn d l rs c' m :=
  ⟨⟨h.calm, h.len, h.ge, h.le, h.low.mono (by omega), h.bytes, h.good⟩, h.half, h.base, h.used, h.recs, Nat.le_trans h.lst hc, h.lowA, h.lowB⟩
theorem Jd.mono {c' : Nat} (h : Jd d rs c m) (hc : c ≤ c') : Jd d rs c' m :=
  ⟨h.calm, h.len, h.ge, h.le, h.low.mono (by omega), h.bytes, h.good⟩
/-- What is left of a call that the power cut off. -/
def Cutoff (F RD H : Heap) (pd : Nat) (d0 d : DZ) (rs next : List RZ) (c m u : Nat) : Prop :=
  TwoO F (fun _ => none) RD H ∧ Dsk RD pd d ∧ d.wait.length ≤ 2400 ∧ 0 < d0.left ∧ (c < 255 → ∀ ks t, (Jd (reopenZ d ks t) rs (c + 1) m ∨ Jd (reopenZ d ks t) next (c + 1) m) ∧ (reopenZ d ks t).left = -1 ∧ (chosen (reopenZ d ks t).now).used ≤ u)
theorem addJ (j : JH F RL RD H p pd d l rs c m) {a : Option Addr} {n cp : Nat} (hs : SlA F a n 17 (rowsC RZ.cells news)) (hg : ∀ r ∈ news, r.good) (hn : n ≤ 300) (hnc : n ≤ cp) (hc : c < 4294967200) (few : rs.length ≤ 100000) :
    ECalls Try.prog 18 #[.pointer (some ⟨p, 0, none⟩), .slice a n cp] H fun v H' => ∃ RL' RD' d' l' e, v = .int .i64 e ∧
      ((e = 0 ∧ JH F RL' RD' H' p pd d' l' (rs ++ news) (c + 1) m ∧ l'.half = l.half ∧ l'.used = l.used + secA news ∧ (d.left ≤ 0 → d'.left = d.left)) ∨
       (e = 21 ∧ JH F RL' RD' H' p pd d l rs c m ∧ news ≠ [] ∧ l.half - l.used < secsN (framesB news).length) ∨
       (e = 22 ∧ Cutoff F RD' H' pd d d' rs (rs ++ news) c m (l.used + secsN (framesB news).length))) := by
  obtain ⟨lv, lg⟩ := j.log
  have hl := j.jn.lst
  have hw := j.jn.calm.wait
  refine (jadd_c j.two j.dsk lg (by omega) (by rw [hw]; exact Nat.zero_le _) (by rw [j.jn.recs]; exact few) hs hg hn hnc).mono ?_
  rintro v H' ⟨RL', RD', lv', rfl, t, lg', dk⟩
  by_cases h0 : news = []
  · have e : addZ d l news = (d, l, 0) := by unfold addZ; rw [if_pos h0]
    rw [e] at lg' dk ⊢
    refine ⟨RL', RD', d, l, 0, rfl, .inl ⟨rfl, ⟨t, ⟨lv', lg'⟩, dk, ?_⟩, rfl, by unfold secA; rw [if_pos h0]; rfl, fun _ => rfl⟩⟩
    rw [h0, List.append_nil]
    exact j.jn.mono (by omega)
  · by_cases hr : l.half - l.used < secsN (framesB news).length
    · have e : addZ d l news = (d, l, 21) := by unfold addZ; rw [if_neg h0, if_pos hr]
      rw [e] at lg' dk ⊢
      exact ⟨RL', RD', d, l, 21, rfl, .inr (.inl ⟨rfl, ⟨t, ⟨lv', lg'⟩, dk, j.jn⟩, h0, hr⟩)⟩
    · obtain ⟨d1, l1, e, he, hh⟩ := j.jn.add hc hg h0 (by omega)
      rw [he] at lg' dk ⊢
      refine ⟨RL', RD', d1, l1, e, rfl, ?_⟩
      rcases hh with ⟨rfl, h1, h2, h3, h4⟩ | ⟨rfl, h1, h2, h3⟩
      · exact .inl ⟨rfl, ⟨t, ⟨lv', lg'⟩, dk, h1⟩, h2, by unfold secA; rw [if_neg h0]; exact h3, h4⟩
      · exact .inr (.inr ⟨rfl, t.only, dk, h1, h2, h3⟩)
theorem replJ (j : JH F RL RD H p pd d l rs c m) {a : Option Addr} {n cp : Nat} (hs : SlA F a n 17 (rowsC RZ.cells news)) (hg : ∀ r ∈ news, r.good) (hn : n ≤ 300) (hnc : n ≤ cp) (hc : c < 4294967200) :
    ECalls Try.prog 16 #[.pointer (some ⟨p, 0, none⟩), .slice a n cp] H fun v H' => ∃ RL' RD' d' l' e, v = .int .i64 e ∧
      ((e = 0 ∧ JH F RL' RD' H' p pd d' l' news (c + 1) m ∧ l'.half = l.half ∧ l'.used = secsN (framesB news).length ∧ (d.left ≤ 0 → d'.left = d.left)) ∨
       (e = 21 ∧ JH F RL' RD' H' p pd d l rs c m ∧ l.half < secsN (framesB news).length) ∨
       (e = 22 ∧ Cutoff F RD' H' pd d d' rs news c m (l.used + secsN (framesB news).length))) := by
  obtain ⟨lv, lg⟩ := j.log
  have hl := j.jn.lst
  have hw := j.jn.calm.wait
  refine (jreplace_c j.two j.dsk lg (by omega) (by rw [hw]; exact Nat.zero_le _) hs hg hn hnc).mono ?_
  rintro v H' ⟨RL', RD', lv', rfl, t, lg', dk⟩
  by_cases hr : l.half < secsN (framesB news).length
  · have e : replZ d l news = (d, l, 21) := by unfold replZ; rw [if_pos hr]
    rw [e] at lg' dk ⊢
    exact ⟨RL', RD', d, l, 21, rfl, .inr (.inl ⟨rfl, ⟨t, ⟨lv', lg'⟩, dk, j.jn⟩, hr⟩)⟩
  · obtain ⟨d1, l1, e, he, hh⟩ := j.jn.repl hc hg (by omega)
    rw [he] at lg' dk ⊢
    refine ⟨RL', RD', d1, l1, e, rfl, ?_⟩
    rcases hh with ⟨rfl, h1, h2, h3, h4⟩ | ⟨rfl, h1, h2, h3⟩
    · exact .inl ⟨rfl, ⟨t, ⟨lv', lg'⟩, dk, h1⟩, h2, h3, h4⟩
    · exact .inr (.inr ⟨rfl, t.only, dk, h1, h2, h3⟩)
theorem reopenJ (j : JD F RD H pd d rs c m) {a : Option Addr} {n cp : Nat} {ks : List Bool} (hb : BoA F a n ks) (torn : Int) (hn : n ≤ 1000000) :
    ECalls Try.prog 22 #[.pointer (some ⟨pd, 0, none⟩), .slice a n cp, .int .i64 torn] H fun _ H' => ∃ RD' d', JD F RD' H' pd d' rs c m ∧ d'.now = d.now ∧ d'.left = -1 := by
  have hw := j.jd.calm.wait
  refine (diskReopen_c j.two.ble j.dsk j.two.fle j.two.fb hb torn hn (by rw [hw]; exact Nat.zero_le _)).mono ?_
  rintro v H' ⟨RD', ow, dk⟩
  obtain ⟨h1, h2⟩ := j.jd.reopen ks torn
  exact ⟨RD', _, ⟨j.two.right ow, dk, h1⟩, (j.jd.calm.reopen ks torn).2.1, h2⟩
theorem reopenC {d0 : DZ} {next : List RZ} {u : Nat} (j : Cutoff F RD H pd d0 d rs next c m u) (hc : c < 255) {a : Option Addr} {n cp : Nat} {ks : List Bool} (hb : BoA F a n ks) (torn : Int) (hn : n ≤ 1000000) :
    ECalls Try.prog 22 #[.pointer (some ⟨pd, 0, none⟩), .slice a n cp, .int .i64 torn] H fun _ H' => ∃ RD' d', (JD F RD' H' pd d' rs (c + 1) m ∨ JD F RD' H' pd d' next (c + 1) m) ∧ d'.left = -1 ∧ (chosen d'.now).used ≤ u := by
  obtain ⟨t, dk, hw, _, hj⟩ := j
  refine (diskReopen_c t.ble dk t.fle t.fb hb torn hn (by omega)).mono ?_
  rintro v H' ⟨RD', ow, dk'⟩
  obtain ⟨h1, h2⟩ := hj hc ks torn
  rcases h1 with h1 | h1
  · exact ⟨RD', _, .inl ⟨t.right ow, dk', h1⟩, h2⟩
  · exact ⟨RD', _, .inr ⟨t.right ow, dk', h1⟩, h2⟩
theorem cutJ (j : JH F RL RD H p pd d l rs c m) (n : Int) (h1 : 1 ≤ n) (hn : n < 9223372036854775808) :
    ECalls Try.prog 23 #[.pointer (some ⟨pd, 0, none⟩), .int .i64 n] H fun _ H' => ∃ RD' d', JH F RL RD' H' p pd d' l rs c m := by
  refine (diskCut_c j.two.ble j.dsk n hn).mono ?_
  rintro v H' ⟨RD', ow, dk⟩
  have e : cutZ d n = { d with left := n } := by
    unfold cutZ
    have a1 : max n 0 = n := by omega
    have a2 : ¬ n < 1 := by omega
    simp [a1, a2]
  rw [e] at dk
  exact ⟨RD', _, j.two.right ow, j.log, dk, j.jn.left n⟩
end
end Go.Proofs.Ytnmbmccigpljnaa.GL
