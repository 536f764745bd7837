/- Layer 3: a disk: what it is in memory; the small functions.; Layer 3: a disk: read, written.; Layer 3: a disk: synced, opened again.; Layer 3: a disk: opened again, cloned.; Layer 3: a disk cloned.; Layer 3: a disk's calls, whole; the chapter's example. -/
import Derived.Test.YtnmbmccigpljnaaGlT
import Derived.Test.YtnmbmccigpljnaaGlR
namespace Go.Proofs.Ytnmbmccigpljnaa.GL
open Go Go.RowKit
set_option maxRecDepth 10000
set_option pp.deepTerms.threshold 8
set_option pp.maxSteps 3000
set_option linter.unusedSimpArgs false
set_option linter.unusedVariables false

structure Sec where
  b : List UInt8
  len : b.length = 64
def Sec.cells (x : Sec) : List Value := x.b.map u8V
theorem sec64 (x : Sec) : x.cells.length = 64 := by simp [Sec.cells, x.len]
theorem sec1 (x : Sec) : x.cells.all (·.oneCell') = true := all_u8 x.b
attribute [simp] sec64 sec1
structure Wr where
  n : Nat
  s : Sec
def Wr.cells (x : Wr) : List Value := .int .i64 x.n :: x.s.cells
theorem wr65 (x : Wr) : x.cells.length = 65 := by simp [Wr.cells]
theorem wr1 (x : Wr) : x.cells.all (·.oneCell') = true := by rw [Wr.cells, List.all_cons, sec1]; rfl
attribute [simp] wr65 wr1
/-- A sector out of any bytes. -/
def secOf (bs : List UInt8) : Sec := ⟨(bs ++ List.replicate 64 0).take 64, by simp⟩
/-- A part of a sector is another one's. -/
def tornS (old new : Sec) (t : Nat) : Sec := ⟨new.b.take t ++ old.b.drop t, by simp [old.len, new.len]; omega⟩
theorem secOf_nil : (secOf []).cells = rep 64 (.int .u8 0) := by rw [rep_u8]; rfl
theorem sec_copy (bs : List UInt8) : splice (rep 64 (.int .u8 0)) 0 ((bs.map u8V).take (min bs.length 64)) = (secOf bs).cells := by
  rw [rep_u8]
  unfold splice secOf Sec.cells
  rw [List.take_zero, List.nil_append, Nat.zero_add, ← List.map_take, ← List.map_drop, ← List.map_append]
  congr 1
  show _ = (bs ++ List.replicate 64 0).take 64
  rw [List.take_append, List.take_replicate, List.length_map, List.length_take, List.drop_replicate]
  congr 1
  · by_cases h : bs.length ≤ 64
    · rw [Nat.min_eq_left h, List.take_length, List.take_of_length_le h]
    · rw [Nat.min_eq_right (by omega)]
  · congr 1; omega
theorem torn_cells (old new : Sec) (t : Nat) (ht : t ≤ 64) : (tornS old new t).cells = splice old.cells 0 (new.cells.take t) := by
  unfold splice tornS Sec.cells
  rw [List.take_zero, List.nil_append, Nat.zero_add, ← List.map_take, List.length_map, List.length_take, new.len, Nat.min_eq_left ht, List.map_append, List.map_drop]
theorem torn_all (old new : Sec) (t : Nat) (ht : 64 ≤ t) : tornS old new t = new := by
  cases new with | mk b hb => cases old with | mk c hc =>
  unfold tornS
  congr 1
  simp only
  rw [List.take_of_length_le (by omega), List.drop_of_length_le (by omega), List.append_nil]

structure DZ where
  kept : List Sec
  now : List Sec
  wait : List Wr
  left : Int
  down : Bool
def WaitAt (R : Heap) (v : Value) (ws : List Wr) (p k w : Nat) : Prop :=
  (v = .slice none 0 0 ∧ ws = []) ∨ ∃ q o cap room, v = .slice (some ⟨q, o, none⟩) ws.length cap ∧ R q = some (.row true o (rowsC Wr.cells ws) room) ∧ q ≠ p ∧ q ≠ k ∧ q ≠ w ∧ ws.length ≤ cap ∧ cap * 65 ≤ ws.length * 65 + room
theorem WaitAt.sl {R H : Heap} {v : Value} {ws : List Wr} {p k w : Nat} (h : WaitAt R v ws p k w) (hl : Heap.le R H) : ∃ a c, v = .slice a ws.length c ∧ SlA H a ws.length 65 (rowsC Wr.cells ws) ∧ ws.length ≤ c := by
  rcases h with ⟨rfl, rfl⟩ | ⟨q, o, cap, room, rfl, hr, _, _, _, hc, _⟩
  · exact ⟨none, 0, rfl, SlA.nil _ _, Nat.le_refl _⟩
  · exact ⟨_, cap, rfl, SlA.row (hl _ _ hr) (Nat.le_refl _) (rowsC_len wr65 ws) (by rw [rowsC_len wr65]; omega) (by rw [Nat.sub_self, List.drop_zero, ← rowsC_len wr65 ws, List.take_length]), hc⟩
/-- A disk's memory. -/
structure DskAt (R : Heap) (p : Nat) (d : DZ) (k ok ck rk w ow cw rw : Nat) (qv : Value) : Prop where
  row : R p = some (.row true 0 [.slice (some ⟨k, ok, none⟩) d.kept.length ck, .slice (some ⟨w, ow, none⟩) d.now.length cw, qv, .int .i64 d.left, .bool d.down] 0)
  kept : R k = some (.row true ok (rowsC Sec.cells d.kept) rk)
  now : R w = some (.row true ow (rowsC Sec.cells d.now) rw)
  pk : p ≠ k
  pw : p ≠ w
  kw : k ≠ w
  same : d.now.length = d.kept.length
  kc : d.kept.length ≤ ck
  wc : d.now.length ≤ cw
  kf : ck * 64 ≤ d.kept.length * 64 + rk
  wf : cw * 64 ≤ d.now.length * 64 + rw
  inn : ∀ x ∈ d.wait, x.n < d.kept.length
  few : d.kept.length ≤ 4096
  left : d.left < 9223372036854775808 ∧ -9223372036854775808 < d.left
  wait : WaitAt R qv d.wait p k w
def Dsk (R : Heap) (p : Nat) (d : DZ) : Prop := ∃ k ok ck rk w ow cw rw qv, DskAt R p d k ok ck rk w ow cw rw qv

def newZ (n : Nat) : DZ := ⟨List.replicate n (secOf []), List.replicate n (secOf []), [], -1, false⟩
theorem zeros_sec (n : Nat) : zeros (rep 64 (.int .u8 0)) n = rowsC Sec.cells (List.replicate n (secOf [])) := by
  unfold zeros rowsC
  rw [List.map_replicate, secOf_nil]
theorem newDsk {R : Heap} {p k w m : Nat} (pk : p ≠ k) (pw : p ≠ w) (kw : k ≠ w) (hm : m ≤ 4096) (h1 : R p = some (.row true 0 [.slice (some ⟨k, 0, none⟩) m m, .slice (some ⟨w, 0, none⟩) m m, .slice none 0 0, .int .i64 (-1), .bool false] 0))
    (h2 : R k = some (.row true 0 (rowsC Sec.cells (List.replicate m (secOf []))) 0)) (h3 : R w = some (.row true 0 (rowsC Sec.cells (List.replicate m (secOf []))) 0)) : Dsk R p (newZ m) :=
  ⟨k, 0, m, 0, w, 0, m, 0, .slice none 0 0, by simpa [newZ] using h1, h2, h3, pk, pw, kw, by simp [newZ], by simp [newZ], by simp [newZ], by simp [newZ], by simp [newZ], fun x hx => (by cases hx), by simpa [newZ] using hm, by simp [newZ], .inl ⟨rfl, rfl⟩⟩
theorem diskNew_c (H : Heap) (n : Int) : ECalls Try.prog 11 #[.int .i64 n] H fun v H' => ∃ p R, v = .pointer (some ⟨p, 0, none⟩) ∧ Own H (fun _ => none) H' R ∧ Dsk R p (newZ (min (max n 0) 4096).toNat) := by
  refine ecalls_of_ewp (args := [_]) Try.func11 rfl rfl rfl (by simp [Try.ntmps11]) (by kernel_rfl) ?_
  obtain ⟨m, hm⟩ : ∃ m : Nat, min (max n 0) 4096 = (m : Int) := ⟨(min (max n 0) 4096).toNat, by omega⟩
  have hm4 : m ≤ 4096 := by omega
  rw [hm, Int.toNat_natCast]
  simp (disch := first | omega | assumption | decide | (simp <;> omega) | fail) [facts, hm]
  refine w_plan (P := Try.prog) (by simp [facts]) (opsP [0,2] (.both (opsP [1,3,4,5,6] .done) (opsP [3,1,4,5,6] .done))) ?_ ?_
  · decide +kernel
  simp (disch := first | omega | assumption | decide | (simp <;> omega) | fail) [facts, zeros_sec]
  constructor
  all_goals
    refine fresh_intro fun b1 hb1 => ?_
    simp (disch := first | omega | assumption | decide | (simp <;> omega) | fail) [facts, zeros_sec]
    refine fresh_intro fun b2 hb2 => ?_
    simp (disch := first | omega | assumption | decide | (simp <;> omega) | fail) [facts, ]
    refine fresh_intro fun b3 hb3 => ?_
    have h21 : b2 ≠ b1 := (ne_of_fresh hb2 (upd_same _ _ _)).symm
    have h32 : b3 ≠ b2 := (ne_of_fresh hb3 (upd_same _ _ _)).symm
    have h31 : b3 ≠ b1 := (ne_of_fresh hb3 (by rw [upd_ne _ _ h21.symm, upd_same])).symm
    simp (disch := first | omega | assumption | decide | (simp <;> omega) | fail) [facts, ]
    refine ⟨_, Heap.le_refl _, _, (((Own.nil (Heap.le_refl H)).add hb1 _).add hb2 _).add hb3 _, ?_⟩
    first
      | exact newDsk h31 h32 h21.symm hm4 (upd_same _ _ _) (by rw [upd_ne _ _ h31.symm, upd_ne _ _ h21.symm, upd_same]) (by rw [upd_ne _ _ h32.symm, upd_same])
      | exact newDsk h32 h31 h21 hm4 (upd_same _ _ _) (by rw [upd_ne _ _ h32.symm, upd_same]) (by rw [upd_ne _ _ h31.symm, upd_ne _ _ h21.symm, upd_same])
section
variable {H R : Heap} {p : Nat} {d : DZ}
theorem diskDown_c (hR : Heap.le R H) (h : Dsk R p d) : ECalls Try.prog 26 #[.pointer (some ⟨p, 0, none⟩)] H fun v H' => v = .bool d.down ∧ H' = H := by
  refine ecalls_of_ewp (args := [_]) Try.func26 rfl rfl rfl (by simp [Try.ntmps26]) (by kernel_rfl) ?_
  obtain ⟨k, ok, ck, rk, w, ow, cw, rw', qv, hd⟩ := h
  have hp := hR _ _ hd.row
  simp (disch := first | omega | assumption | decide | (simp <;> omega) | fail) [facts, hp]
theorem diskSectors_c (hR : Heap.le R H) (h : Dsk R p d) : ECalls Try.prog 25 #[.pointer (some ⟨p, 0, none⟩)] H fun v H' => v = .int .i64 d.kept.length ∧ H' = H := by
  refine ecalls_of_ewp (args := [_]) Try.func25 rfl rfl rfl (by simp [Try.ntmps25]) (by kernel_rfl) ?_
  obtain ⟨k, ok, ck, rk, w, ow, cw, rw', qv, hd⟩ := h
  have hp := hR _ _ hd.row
  simp (disch := first | omega | assumption | decide | (simp <;> omega) | fail) [facts, hp, hd.same]
def outZ (d : DZ) (n : Int) : Int := if d.down then 22 else if n < 0 ∨ (d.kept.length : Int) ≤ n then 20 else 0
theorem diskOut_c (hR : Heap.le R H) (h : Dsk R p d) (n : Int) : ECalls Try.prog 54 #[.pointer (some ⟨p, 0, none⟩), .int .i64 n] H fun v H' => v = .int .i64 (outZ d n) ∧ H' = H := by
  refine ecalls_of_ewp (args := [_, _]) Try.func54 rfl rfl rfl (by simp [Try.ntmps54]) (by kernel_rfl) ?_
  obtain ⟨k, ok, ck, rk, w, ow, cw, rw', qv, hd⟩ := h
  have hp := hR _ _ hd.row
  unfold outZ
  cases hdn : d.down with
  | true =>
    rw [hdn] at hp
    simp (disch := first | omega | assumption | decide | (simp <;> omega) | fail) [facts, hp]
  | false =>
    rw [hdn] at hp
    by_cases h0 : n < 0
    · simp (disch := first | omega | assumption | decide | (simp <;> omega) | fail) [facts, hp, h0, hd.same]
    · by_cases h1 : (d.kept.length : Int) ≤ n
      · simp (disch := first | omega | assumption | decide | (simp <;> omega) | fail) [facts, hp, h0, hd.same, h1]
      · simp (disch := first | omega | assumption | decide | (simp <;> omega) | fail) [facts, hp, h0, hd.same, h1]
def powZ (d : DZ) : DZ := if 0 < d.left then { d with left := d.left - 1, down := decide (d.left = 1) } else d
def powE (d : DZ) : Int := if (powZ d).down then 22 else 0
/-- The struct's own row changed. -/
theorem DskAt.setRow {k ok ck rk w ow cw rw : Nat} {qv : Value} (h : DskAt R p d k ok ck rk w ow cw rw qv) {d' : DZ} (h1 : d'.kept = d.kept) (h2 : d'.now = d.now) (h3 : d'.wait = d.wait) (h4 : d'.left < 9223372036854775808 ∧ -9223372036854775808 < d'.left) :
    DskAt (upd R p (.row true 0 [.slice (some ⟨k, ok, none⟩) d.kept.length ck, .slice (some ⟨w, ow, none⟩) d.now.length cw, qv, .int .i64 d'.left, .bool d'.down] 0)) p d' k ok ck rk w ow cw rw qv := by
  obtain ⟨kept', now', wait', left', down'⟩ := d'
  simp only at h1 h2 h3 h4
  subst h1 h2 h3
  refine ⟨upd_same _ _ _, by rw [upd_ne _ _ h.pk.symm]; exact h.kept, by rw [upd_ne _ _ h.pw.symm]; exact h.now, h.pk, h.pw, h.kw, h.same, h.kc, h.wc, h.kf, h.wf, h.inn, h.few, h4, ?_⟩
  rcases h.wait with h0 | ⟨q, o, cap, room, e1, e2, e3, e4, e5, e6, e7⟩
  · exact .inl h0
  · exact .inr ⟨q, o, cap, room, e1, by rw [upd_ne _ _ e3]; exact e2, e3, e4, e5, e6, e7⟩
theorem diskPower_c (hR : Heap.le R H) (h : Dsk R p d) : ECalls Try.prog 55 #[.pointer (some ⟨p, 0, none⟩)] H fun v H' => v = .int .i64 (powE d) ∧ ∃ R', Own H R H' R' ∧ Dsk R' p (powZ d) := by
  refine ecalls_of_ewp (args := [_]) Try.func55 rfl rfl rfl (by simp [Try.ntmps55]) (by kernel_rfl) ?_
  obtain ⟨k, ok, ck, rk, w, ow, cw, rw', qv, hd⟩ := h
  have hp := hR _ _ hd.row
  have hl := hd.left
  unfold powE powZ
  by_cases h0 : 0 < d.left
  · have hs := hd.setRow (d' := { d with left := d.left - 1, down := decide (d.left = 1) }) rfl rfl rfl (by simp only; omega)
    have ho := (Own.refl hR).set hd.row (.row true 0 [.slice (some ⟨k, ok, none⟩) d.kept.length ck, .slice (some ⟨w, ow, none⟩) d.now.length cw, qv, .int .i64 (d.left - 1), .bool (decide (d.left = 1))] 0)
    by_cases h1 : d.left = 1
    · simp only [h1, decide_true] at hs ho
      simp (disch := first | omega | assumption | decide | (simp <;> omega) | fail) [facts, hp, h0, h1, upd_upd]
      exact ⟨_, Heap.le_refl _, _, ho, _, _, _, _, _, _, _, _, _, hs⟩
    · have h2 : ¬ d.left - 1 = 0 := by omega
      simp only [h1, decide_false] at hs ho
      simp (disch := first | omega | assumption | decide | (simp <;> omega) | fail) [facts, hp, h0, h1, h2, upd_upd]
      exact ⟨_, Heap.le_refl _, _, ho, _, _, _, _, _, _, _, _, _, hs⟩
  · cases hdn : d.down with
    | true =>
      rw [hdn] at hp
      simp (disch := first | omega | assumption | decide | (simp <;> omega) | fail) [facts, hp, h0, hdn]
      exact ⟨_, Heap.le_refl _, R, Own.refl hR, _, _, _, _, _, _, _, _, _, hd⟩
    | false =>
      rw [hdn] at hp
      simp (disch := first | omega | assumption | decide | (simp <;> omega) | fail) [facts, hp, h0, hdn]
      exact ⟨_, Heap.le_refl _, R, Own.refl hR, _, _, _, _, _, _, _, _, _, hd⟩
def cutZ (d : DZ) (n : Int) : DZ := { d with left := max n 0, down := d.down || decide (n < 1) }
theorem diskCut_c (hR : Heap.le R H) (h : Dsk R p d) (n : Int) (hn : n < 9223372036854775808) : ECalls Try.prog 23 #[.pointer (some ⟨p, 0, none⟩), .int .i64 n] H fun _ H' => ∃ R', Own H R H' R' ∧ Dsk R' p (cutZ d n) := by
  refine ecalls_of_ewp (args := [_, _]) Try.func23 rfl rfl rfl (by simp [Try.ntmps23]) (by kernel_rfl) ?_
  obtain ⟨k, ok, ck, rk, w, ow, cw, rw', qv, hd⟩ := h
  have hp := hR _ _ hd.row
  have hs := hd.setRow (d' := cutZ d n) rfl rfl rfl (by simp only [cutZ]; omega)
  have ho := (Own.refl hR).set hd.row (.row true 0 [.slice (some ⟨k, ok, none⟩) d.kept.length ck, .slice (some ⟨w, ow, none⟩) d.now.length cw, qv, .int .i64 (cutZ d n).left, .bool (cutZ d n).down] 0)
  simp only [cutZ] at hs ho
  unfold cutZ
  by_cases h1 : n < 1
  · simp only [h1, decide_true, Bool.or_true] at hs ho
    simp (disch := first | omega | assumption | decide | (simp <;> omega) | fail) [facts, hp, h1, upd_upd]
    exact ⟨_, Heap.le_refl _, _, ho, _, _, _, _, _, _, _, _, _, hs⟩
  · simp only [h1, decide_false, Bool.or_false] at hs ho
    simp (disch := first | omega | assumption | decide | (simp <;> omega) | fail) [facts, hp, h1, upd_upd]
    exact ⟨_, Heap.le_refl _, _, ho, _, _, _, _, _, _, _, _, _, hs⟩
end
end Go.Proofs.Ytnmbmccigpljnaa.GL

namespace Go.Proofs.Ytnmbmccigpljnaa.GL
open Go Go.RowKit
set_option maxRecDepth 10000
set_option pp.deepTerms.threshold 8
set_option pp.maxSteps 3000
set_option linter.unusedSimpArgs false
set_option linter.unusedVariables false

/-- slices.Clone of bytes. -/
theorem cloneB_c (a : Option Addr) (n c : Nat) (bs : List UInt8) (H : Heap) (h : ByA H a n bs) (hn : n ≤ 1099511627776) :
    ECalls Try.prog 56 #[.slice a n c] H fun v H' => Heap.le H H' ∧ Out H H' v 1 n (bs.map u8V) := by
  refine ecalls_of_ewp (args := [_]) Try.func56 rfl rfl rfl (by simp [Try.ntmps56]) (by kernel_rfl) ?_
  have hlen : bs.length = n := h.len
  cases a with
  | none =>
    have hn0 : n = 0 := by
      rcases h with h | ⟨h0, _⟩
      · rcases Nat.eq_zero_or_pos n with h0 | h0
        · exact h0
        · have := h.there h0; cases this
      · exact h0
    subst hn0
    have hb : bs = [] := List.length_eq_zero_iff.1 hlen
    subst hb
    simp (disch := first | omega | assumption | decide | (simp <;> omega) | fail) [facts, ]
    exact ⟨_, Heap.le_refl _, Heap.le_refl _, .inl ⟨rfl, rfl, rfl⟩⟩
  | some a =>
    simp (disch := first | omega | assumption | decide | (simp <;> omega) | fail) [facts, ]
    refine fresh_intro fun b hb => ?_
    simp (disch := first | omega | assumption | decide | (simp <;> omega) | fail) [facts, ]
    refine app_own (e := 5) (s := 1) (nbs := 1) (z := .int .u8 0) (b := b) (o := 0) (cap := 0) (room := 0) (m := 0) (n := n) (cs := []) (ys := bs.map u8V) (by simp [facts]) (by simp [facts]) (by simp [facts]) (by simp [facts]) rfl (by decide) ⟨rfl, upd_same _ _ _, rfl, Nat.le_refl _, by omega⟩
      (src_by (e1 := 5) (z := .int .u8 0) (by simp [facts]) (by simp [facts]) (by simp [facts]) (h.le (le_upd _ hb))) (by simp [hlen]) (by simp [List.all_eq_true, u8V, Value.oneCell']) (by omega) ?_
    intro b' o' cap' room' H' hb' hH' hown
    rw [dele_fresh hb] at hb' hH'
    have hle : Heap.le H H' := by rw [hH']; exact le_upd _ hb'
    simp (disch := first | omega | assumption | decide | (simp <;> omega) | fail) [facts, ]
    exact ⟨_, Heap.le_refl _, hle, .inr ⟨b', o', cap', room', hb', by simpa using hown⟩⟩

theorem ne_of_none {H : Heap} {b c : Nat} {o : GObj} (hb : H b = none) (hc : H c = some o) : b ≠ c := fun e => by subst e; rw [hb] at hc; cases hc
section
variable {H R : Heap} {p : Nat} {d : DZ}
theorem DskAt.nowSl {k ok ck rk w ow cw rw : Nat} {qv : Value} (h : DskAt R p d k ok ck rk w ow cw rw qv) (hR : Heap.le R H) : SlA H (some ⟨w, ow, none⟩) d.now.length 64 (rowsC Sec.cells d.now) :=
  SlA.row (hR _ _ h.now) (Nat.le_refl _) (rowsC_len sec64 _) (by rw [rowsC_len sec64]; omega) (by rw [Nat.sub_self, List.drop_zero, ← rowsC_len sec64 d.now, List.take_length])
theorem DskAt.keptSl {k ok ck rk w ow cw rw : Nat} {qv : Value} (h : DskAt R p d k ok ck rk w ow cw rw qv) (hR : Heap.le R H) : SlA H (some ⟨k, ok, none⟩) d.kept.length 64 (rowsC Sec.cells d.kept) :=
  SlA.row (hR _ _ h.kept) (Nat.le_refl _) (rowsC_len sec64 _) (by rw [rowsC_len sec64]; omega) (by rw [Nat.sub_self, List.drop_zero, ← rowsC_len sec64 d.kept, List.take_length])
/-- A sector's bytes, in its place. -/
theorem sec_sl {b o n j : Nat} {xs : List Sec} {s : Sec} (h : SlA H (some ⟨b, o, none⟩) n 64 (rowsC Sec.cells xs)) (hs : xs[j]? = some s) : SlA H (some ⟨b, o + j * 64, none⟩) 64 1 (s.b.map u8V) := by
  have hn := h.els sec64 (by decide)
  have hj : j < xs.length := (List.getElem?_eq_some_iff.1 hs).1
  have he := rowsC_at sec64 hs
  have hl : j * 64 + 64 ≤ n * 64 := by omega
  refine ⟨rfl, fun _ => rfl, by simp [s.len], fun i hi => ?_, fun i r hr hi => ?_⟩
  · have := h.get (j * 64 + i) (by omega)
    rw [at1_lit] at this ⊢
    rw [Nat.add_assoc, this]
    show _ = s.cells[i]?
    rw [← he, List.getElem?_take_of_lt (by omega), List.getElem?_drop]
  · have := h.getN (j * 64 + i) r hr (by omega)
    rw [atN_lit] at this ⊢
    rw [Nat.add_assoc, this]
    show _ = some ((s.cells.drop i).take r)
    rw [← he, List.drop_take, List.take_take, List.drop_drop, Nat.min_eq_left (by omega)]
theorem diskRead_out (hR : Heap.le R H) (h : Dsk R p d) (n : Int) (ho : outZ d n ≠ 0) : ECalls Try.prog 49 #[.pointer (some ⟨p, 0, none⟩), .int .i64 n] H fun v H' => v = .tuple #[.slice none 0 0, .int .i64 (outZ d n)] ∧ H' = H := by
  refine ecalls_of_ewp (args := [_, _]) Try.func49 rfl rfl rfl (by simp [Try.ntmps49]) (by kernel_rfl) ?_
  have co := diskOut_c hR h n
  simp (disch := first | omega | assumption | decide | (simp <;> omega) | fail) [facts, ]
  refine co.mono ?_
  rintro v H2 ⟨rfl, rfl⟩
  simp (disch := first | omega | assumption | decide | (simp <;> omega) | fail) [facts, ho]
theorem diskRead_in (hR : Heap.le R H) (h : Dsk R p d) (j : Nat) (hdn : d.down = false) {s : Sec} (hs : d.now[j]? = some s) : ECalls Try.prog 49 #[.pointer (some ⟨p, 0, none⟩), .int .i64 j] H fun v H' => Heap.le H H' ∧ ∃ a c, v = .tuple #[.slice a 64 c, .int .i64 0] ∧ Out H H' (.slice a 64 c) 1 64 s.cells := by
  refine ecalls_of_ewp (args := [_, _]) Try.func49 rfl rfl rfl (by simp [Try.ntmps49]) (by kernel_rfl) ?_
  have co := diskOut_c hR h (j : Int)
  obtain ⟨k, ok, ck, rk, w, ow, cw, rw', qv, hd⟩ := h
  have hp := hR _ _ hd.row
  have hj : j < d.now.length := (List.getElem?_eq_some_iff.1 hs).1
  have hsame := hd.same
  have hj1 : ¬ (d.kept.length : Int) ≤ (j : Int) := by omega
  have hj2 : ¬ (j : Int) < 0 := by omega
  have hj3 : (j : Int) < (d.now.length : Int) := by omega
  have h0 : outZ d j = 0 := by simp [outZ, hdn]; omega
  rw [h0] at co
  have hsl := sec_sl (hd.nowSl hR) hs
  simp (disch := first | omega | assumption | decide | (simp <;> omega) | fail) [facts, ]
  refine co.mono ?_
  rintro v H2 ⟨rfl, rfl⟩
  simp (disch := first | omega | assumption | decide | (simp <;> omega) | fail) [facts, hp, hj3]
  refine (cloneB_c _ 64 64 s.b _ (.inl hsl) (by decide)).mono ?_
  rintro v H3 ⟨hle, hout⟩
  obtain ⟨a, c, rfl, hsl3⟩ := hout.sl
  simp (disch := first | omega | assumption | decide | (simp <;> omega) | fail) [facts, ]
  exact ⟨_, Heap.le_refl _, hle, _, _, ⟨rfl, rfl⟩, hout⟩

/-- The writes that wait, done. -/
def applyW (k : List Sec) (ws : List Wr) : List Sec := ws.foldl (fun k w => k.set w.n w.s) k
theorem applyW_len (ws : List Wr) : ∀ k : List Sec, (applyW k ws).length = k.length := by
  induction ws with
  | nil => intro k; rfl
  | cons w ws ih => intro k; show (applyW (k.set w.n w.s) ws).length = _; rw [ih, List.length_set]
theorem applyW_app (k : List Sec) (ws vs : List Wr) : applyW k (ws ++ vs) = applyW (applyW k ws) vs := by simp [applyW]
def writeZ (d : DZ) (j : Nat) (s : Sec) : DZ := { powZ d with now := d.now.set j s, wait := d.wait ++ [⟨j, s⟩] }
theorem diskWrite_out (hR : Heap.le R H) (h : Dsk R p d) (n : Int) (x : Value) (ho : outZ d n ≠ 0) : ECalls Try.prog 47 #[.pointer (some ⟨p, 0, none⟩), .int .i64 n, x] H fun v H' => v = .int .i64 (outZ d n) ∧ H' = H := by
  refine ecalls_of_ewp (args := [_, _, _]) Try.func47 rfl rfl rfl (by simp [Try.ntmps47]) (by kernel_rfl) ?_
  have co := diskOut_c hR h n
  simp (disch := first | omega | assumption | decide | (simp <;> omega) | fail) [facts, ]
  refine co.mono ?_
  rintro v H2 ⟨rfl, rfl⟩
  simp (disch := first | omega | assumption | decide | (simp <;> omega) | fail) [facts, ho]
theorem diskWrite_down (hR : Heap.le R H) (h : Dsk R p d) (n : Int) (x : Value) (ho : outZ d n = 0) (hpw : (powZ d).down = true) : ECalls Try.prog 47 #[.pointer (some ⟨p, 0, none⟩), .int .i64 n, x] H fun v H' => v = .int .i64 22 ∧ ∃ R', Own H R H' R' ∧ Dsk R' p (powZ d) := by
  refine ecalls_of_ewp (args := [_, _, _]) Try.func47 rfl rfl rfl (by simp [Try.ntmps47]) (by kernel_rfl) ?_
  have co := diskOut_c hR h n
  have cp := diskPower_c hR h
  have he : powE d = 22 := by simp [powE, hpw]
  rw [ho] at co
  rw [he] at cp
  simp (disch := first | omega | assumption | decide | (simp <;> omega) | fail) [facts, ]
  refine co.mono ?_
  rintro v H2 ⟨rfl, rfl⟩
  simp (disch := first | omega | assumption | decide | (simp <;> omega) | fail) [facts, ]
  refine cp.mono ?_
  rintro v H3 ⟨rfl, R', hown, hd'⟩
  simp (disch := first | omega | assumption | decide | (simp <;> omega) | fail) [facts, ]
  exact ⟨_, Heap.le_refl _, R', hown, hd'⟩
theorem powZ_same (d : DZ) : (powZ d).kept = d.kept ∧ (powZ d).now = d.now ∧ (powZ d).wait = d.wait := by
  unfold powZ; split <;> exact ⟨rfl, rfl, rfl⟩
/-- One more waits. -/
theorem WaitAt.app {P : Program} {t e : TypeId} {z : Value} (hu : und P t = .slice e) (hs : sz P e = some 65) (hn : nb P e = some 72) (hz : zeroV P e = some z) (hzs : (cellsV z).length = 65)
    {H0 R0 G R : Heap} {ws : List Wr} {qv : Value} {p k w : Nat} (h : WaitAt R qv ws p k w) (own : Own H0 R0 G R) (x : Wr) (hlen : ws.length ≤ 1000000) {b : Nat} (hb : G b = none) {op ok ow : GObj} (hp : R p = some op) (hk : R k = some ok) (hw : R w = some ow) {K : Kont}
    (hK : ∀ a' c' H' R', Own H0 R0 H' R' → WaitAt R' (.slice a' (ws.length + 1) c') (ws ++ [x]) p k w → R' p = some op → R' k = some ok → R' w = some ow → K (.slice a' (ws.length + 1) c') H') :
    eApp P t t qv (.slice (some ⟨b, 0, none⟩) 1 1) (upd G b (.row true 0 x.cells 0)) K := by
  have own1 := own.grow (le_upd (.row true 0 x.cells 0) hb)
  have hsrc := srcOne (P := P) (H := G) (e := e) (t1 := t) (e1 := e) (b := b) (s := 65) (z := z) (cs := x.cells) hu hs hz (wr65 x)
  rcases h with ⟨rfl, rfl⟩ | ⟨q, o, cap, room, rfl, hq, h1, h2, h3, h4, h5⟩
  · refine app_nil hu hs hn hz hzs (by decide) hsrc (wr65 x) (wr1 x) (by decide) (fun h0 => absurd h0 (by decide)) (fun b' cap room hb' _ hown => ?_)
    have n1 : p ≠ b' := fun e' => by subst e'; rw [own1.le _ _ hp] at hb'; cases hb'
    have n2 : k ≠ b' := fun e' => by subst e'; rw [own1.le _ _ hk] at hb'; cases hb'
    have n3 : w ≠ b' := fun e' => by subst e'; rw [own1.le _ _ hw] at hb'; cases hb'
    exact hK _ _ _ _ (own1.add hb' _) (.inr ⟨b', 0, cap, room, rfl, by rw [upd_same]; simp [rowsC], n1.symm, n2.symm, n3.symm, hown.capOk, by simpa using hown.fits⟩) (by rw [upd_ne _ _ n1, hp]) (by rw [upd_ne _ _ n2, hk]) (by rw [upd_ne _ _ n3, hw])
  · refine app_own hu hs hn hz hzs (by decide) (m := ws.length) (cs := rowsC Wr.cells ws) (b := q) (o := o) (cap := cap) (room := room) ⟨rfl, own1.le _ _ hq, rowsC_len wr65 _, h4, h5⟩ hsrc (wr65 x) (wr1 x) (by omega) fun b' o' cap' room' H' hb' hH' hown => ?_
    subst hH'
    have own2 := own1.drop hq
    have hp2 : dele R q p = some op := by rw [dele_ne _ h1.symm]; exact hp
    have hk2 : dele R q k = some ok := by rw [dele_ne _ h2.symm]; exact hk
    have hw2 : dele R q w = some ow := by rw [dele_ne _ h3.symm]; exact hw
    have n1 : p ≠ b' := fun e' => by subst e'; rw [own2.le _ _ hp2] at hb'; cases hb'
    have n2 : k ≠ b' := fun e' => by subst e'; rw [own2.le _ _ hk2] at hb'; cases hb'
    have n3 : w ≠ b' := fun e' => by subst e'; rw [own2.le _ _ hw2] at hb'; cases hb'
    exact hK _ _ _ _ (own2.add hb' _) (.inr ⟨b', o', cap', room', by simp, by rw [upd_same, rowsC_app, rowsC_single], n1.symm, n2.symm, n3.symm, by simpa using hown.capOk, by simpa using hown.fits⟩) (by rw [upd_ne _ _ n1, hp2]) (by rw [upd_ne _ _ n2, hk2]) (by rw [upd_ne _ _ n3, hw2])
theorem wr_row (j : Nat) (s : Sec) : splice (zeros (Value.int .i64 0 :: rep 64 (.int .u8 0)) 1) 0 (.int .i64 (j : Int) :: (s.cells ++ List.drop 64 (rep 64 (.int .u8 0)))) = (⟨j, s⟩ : Wr).cells := by
  rw [List.drop_of_length_le (by simp), List.append_nil]
  exact splice_all (by simp [zeros])
set_option maxHeartbeats 1000000 in
theorem diskWrite_in {F : Heap} (hR : Heap.le R H) (h : Dsk R p d) (hF : Heap.le F H) (hoff : Off F R) (j : Nat) {a : Option Addr} {n c : Nat} {bs : List UInt8} (hb : ByA F a n bs) (hn : n ≤ 1000000) (hj : j < d.kept.length) (hdn : d.down = false) (hpw : (powZ d).down = false) (hw : d.wait.length ≤ 1000000) :
    ECalls Try.prog 47 #[.pointer (some ⟨p, 0, none⟩), .int .i64 j, .slice a n c] H fun v H' => v = .int .i64 0 ∧ ∃ R', Own H R H' R' ∧ Dsk R' p (writeZ d j (secOf bs)) := by
  refine ecalls_of_ewp (args := [_, _, _]) Try.func47 rfl rfl rfl (by simp [Try.ntmps47]) (by kernel_rfl) ?_
  have ho : outZ d j = 0 := by simp [outZ, hdn]; omega
  have co := diskOut_c hR h (j : Int)
  have cp := diskPower_c hR h
  have he : powE d = 0 := by simp [powE, hpw]
  have hlen := hb.len
  subst hlen
  rw [ho] at co
  rw [he] at cp
  simp (disch := first | omega | assumption | decide | (simp <;> omega) | fail) [facts, ]
  refine co.mono ?_
  rintro v H2 ⟨rfl, rfl⟩
  simp (disch := first | omega | assumption | decide | (simp <;> omega) | fail) [facts, ]
  refine cp.mono ?_
  rintro v H3 ⟨rfl, R3, hown, hd3⟩
  obtain ⟨s1, s2, s3⟩ := powZ_same d
  obtain ⟨hF3, hoff3⟩ := hown.frame hF hoff
  simp (disch := first | omega | assumption | decide | (simp <;> omega) | fail) [facts, ]
  refine fresh_intro fun b hb9 => ?_
  simp (disch := first | omega | assumption | decide | (simp <;> omega) | fail) [facts, ]
  refine copy_own (e := 5) (s := 1) (n := bs.length) (ys := bs.map u8V) (by simp [facts]) (by simp [facts]) (src_by (e1 := 5) (z := .int .u8 0) (by simp [facts]) (by simp [facts]) (by simp [facts]) (hb.le (Heap.le_trans hF3 (le_upd _ hb9)))) (by simp [facts]) (by intro k z e; cases e) (by simp) (all_u8 bs) (upd_same _ _ _) (Nat.le_refl _) (by simp) ?_
  rw [Nat.sub_self, Nat.mul_one, sec_copy, upd_upd]
  have own4 := hown.grow (le_upd (.row true 0 (secOf bs).cells 0) hb9)
  have l9 := upd_same H3 b (.row true 0 (secOf bs).cells 0)
  generalize upd H3 b (.row true 0 (secOf bs).cells 0) = G at *
  obtain ⟨k, ok, ck, rk, w, ow, cw, rw', qv, hd⟩ := hd3
  have hp := own4.le _ _ hd.row
  have hwr := own4.le _ _ hd.now
  have hjn : (j : Int) < ((powZ d).now.length : Int) := by rw [hd.same, s1]; omega
  have hlw : (rowsC Sec.cells (powZ d).now).length = (powZ d).now.length * 64 := rowsC_len sec64 _
  have hj64 : j * 64 + 64 ≤ (powZ d).now.length * 64 := by omega
  have hl9 := rdNU_all (own := true) (room := 0) (sec64 (secOf bs))
  simp (disch := first | omega | assumption | decide | (simp <;> omega) | fail) [facts, ]
  refine w_plan (P := Try.prog) (by simp [facts]) (opsP [0,1,2,3,4,5,6,7] .done) ?_ ?_
  · decide +kernel
  simp (disch := first | omega | assumption | decide | (simp <;> omega) | fail) [facts, hp, l9, hl9, hjn, hwr]
  rw [rowsC_set sec64 _ _ _ (by rw [s2] at hjn ⊢; omega)]
  have own5 := own4.set hd.now (.row true ow (rowsC Sec.cells ((powZ d).now.set j (secOf bs))) rw')
  have bw : b ≠ w := ne_of_none hb9 (hown.le _ _ hd.now)
  have bp : b ≠ p := ne_of_none hb9 (hown.le _ _ hd.row)
  have m9 : upd G w (.row true ow (rowsC Sec.cells ((powZ d).now.set j (secOf bs))) rw') b = some (.row true 0 (secOf bs).cells 0) := by rw [upd_ne _ _ bw]; exact l9
  have hp5 : upd R3 w (.row true ow (rowsC Sec.cells ((powZ d).now.set j (secOf bs))) rw') p = _ := (upd_ne _ _ hd.pw).trans hd.row
  have hk5 : upd R3 w (.row true ow (rowsC Sec.cells ((powZ d).now.set j (secOf bs))) rw') k = _ := (upd_ne _ _ hd.kw).trans hd.kept
  have hw5 := upd_same R3 w (.row true ow (rowsC Sec.cells ((powZ d).now.set j (secOf bs))) rw')
  have hwait : WaitAt (upd R3 w (.row true ow (rowsC Sec.cells ((powZ d).now.set j (secOf bs))) rw')) qv d.wait p k w := by
    rcases hd.wait with ⟨e1, e2⟩ | ⟨q, o, cap, room, e1, e2, e3, e4, e5, e6, e7⟩
    · exact .inl ⟨e1, s3 ▸ e2⟩
    · exact .inr ⟨q, o, cap, room, s3 ▸ e1, by rw [upd_ne _ _ e5, ← s3]; exact e2, e3, e4, e5, s3 ▸ e6, s3 ▸ e7⟩
  generalize upd G w (.row true ow (rowsC Sec.cells ((powZ d).now.set j (secOf bs))) rw') = G5 at *
  generalize upd R3 w (.row true ow (rowsC Sec.cells ((powZ d).now.set j (secOf bs))) rw') = R5 at *
  have hp6 := own5.le _ _ hp5
  refine w_plan (P := Try.prog) (by simp [facts]) (opsP [0,1,2,3,5] (.both (opsP [4,6,7,8,9,10,11,12] .done) (opsP [6,7] (.both (opsP [4,8,9,10,11,12] .done) (opsP [8,4,9,10,11,12] .done))))) ?_ ?_
  · decide +kernel
  simp (disch := first | omega | assumption | decide | (simp <;> omega) | fail) [facts, hp6, m9, hl9]
  repeat' apply And.intro
  all_goals
    refine fresh_intro fun b10 hb10 => ?_
    rw [wr_row]
    have p10 : p ≠ b10 := ne_of_fresh hb10 hp6
    have hp7 := upd_other (o := .row true 0 (Wr.cells ⟨j, secOf bs⟩) 0) hb10 hp6
    simp (disch := first | omega | assumption | decide | (simp <;> omega) | fail) [facts, hp7]
    refine hwait.app (P := Try.prog) (e := 85) (z := .agg (([.int .i64 0] : List Value) ++ rep 64 (.int .u8 0)).toArray) (by simp [facts]) (by simp [facts]) (by simp [facts]) (by simp [facts]) (by simp) own5 ⟨j, secOf bs⟩ hw hb10 hp5 hk5 hw5 ?_
    intro a' c' H' R' own' hwt hp' hk' hw'
    have hpH := own'.le _ _ hp'
    simp (disch := first | omega | assumption | decide | (simp <;> omega) | fail) [facts, hpH]
    refine ⟨_, Heap.le_refl _, _, own'.set hp' _, k, ok, ck, rk, w, ow, cw, rw', .slice a' (d.wait.length + 1) c', ?_⟩
    refine ⟨?_, ?_, ?_, hd.pk, hd.pw, hd.kw, ?_, ?_, ?_, ?_, ?_, ?_, ?_, ?_, ?_⟩
    · simp [writeZ, s2]
    · rw [upd_ne _ _ hd.pk.symm, hk']; rfl
    · rw [upd_ne _ _ hd.pw.symm, hw']; rw [s2]; rfl
    · simp [writeZ, s1]; have := hd.same; rw [s1, s2] at this; exact this
    · exact hd.kc
    · have := hd.wc; rw [s2] at this; simpa [writeZ] using this
    · exact hd.kf
    · have := hd.wf; rw [s2] at this; simpa [writeZ] using this
    · intro x hx
      rcases List.mem_append.1 hx with hx | hx
      · rw [← s3] at hx; exact hd.inn x hx
      · rw [List.mem_singleton] at hx; subst hx
        show j < (powZ d).kept.length
        rw [s1]; exact hj
    · exact hd.few
    · exact hd.left
    · rcases hwt with ⟨e1, e2⟩ | ⟨q, o, cap, room, e1, e2, e3, e4, e5, e6, e7⟩
      · simp at e2
      · exact .inr ⟨q, o, cap, room, by simpa [writeZ] using e1, by rw [upd_ne _ _ e3]; exact e2, e3, e4, e5, e6, e7⟩
end
end Go.Proofs.Ytnmbmccigpljnaa.GL

namespace Go.Proofs.Ytnmbmccigpljnaa.GL
open Go Go.RowKit
set_option maxRecDepth 10000
set_option pp.deepTerms.threshold 8
set_option pp.maxSteps 3000
set_option linter.unusedSimpArgs false
set_option linter.unusedVariables false

theorem wr_get0 (x : Wr) : x.cells[0]? = some (.int .i64 x.n) := Eq.trans rfl rfl
theorem wr_part (x : Wr) : (x.cells.drop 1).take 64 = x.s.cells := by
  show x.s.cells.take 64 = _
  rw [← sec64 x.s, List.take_length]
theorem wr_take (x : Wr) : x.cells.take 65 = x.cells := by rw [← wr65 x, List.take_length]
theorem rep_drop (n : Nat) (v : Value) : List.drop n (rep n v) = [] := List.drop_of_length_le (by simp)
theorem sec_take (x : Sec) : x.cells.take 64 = x.cells := by rw [← sec64 x, List.take_length]
section
variable {H R : Heap} {p : Nat} {d : DZ}
/-- A sector of what is kept changed. -/
theorem DskAt.setKept {k ok ck rk w ow cw rw : Nat} {qv : Value} (h : DskAt R p d k ok ck rk w ow cw rw qv) (ks : List Sec) (hl : ks.length = d.kept.length) : DskAt (upd R k (.row true ok (rowsC Sec.cells ks) rk)) p { d with kept := ks } k ok ck rk w ow cw rw qv := by
  refine ⟨by rw [upd_ne _ _ h.pk, h.row]; simp only [hl], upd_same _ _ _, by rw [upd_ne _ _ h.kw.symm, h.now], h.pk, h.pw, h.kw, h.same.trans hl.symm, by rw [hl]; exact h.kc, h.wc, by rw [hl]; exact h.kf, h.wf, fun x hx => by rw [hl]; exact h.inn x hx, by rw [hl]; exact h.few, h.left, ?_⟩
  rcases h.wait with h0 | ⟨q, o, cap, room, e1, e2, e3, e4, e5, e6, e7⟩
  · exact .inl h0
  · exact .inr ⟨q, o, cap, room, e1, by rw [upd_ne _ _ e4]; exact e2, e3, e4, e5, e6, e7⟩
theorem DskAt.setNow {k ok ck rk w ow cw rw : Nat} {qv : Value} (h : DskAt R p d k ok ck rk w ow cw rw qv) (ks : List Sec) (hl : ks.length = d.now.length) : DskAt (upd R w (.row true ow (rowsC Sec.cells ks) rw)) p { d with now := ks } k ok ck rk w ow cw rw qv := by
  refine ⟨by rw [upd_ne _ _ h.pw, h.row]; simp only [hl], by rw [upd_ne _ _ h.kw, h.kept], upd_same _ _ _, h.pk, h.pw, h.kw, hl.trans h.same, h.kc, by rw [hl]; exact h.wc, h.kf, by rw [hl]; exact h.wf, h.inn, h.few, h.left, ?_⟩
  rcases h.wait with h0 | ⟨q, o, cap, room, e1, e2, e3, e4, e5, e6, e7⟩
  · exact .inl h0
  · exact .inr ⟨q, o, cap, room, e1, by rw [upd_ne _ _ e5]; exact e2, e3, e4, e5, e6, e7⟩
/-- Nothing waits any more. -/
theorem DskAt.noWait {k ok ck rk w ow cw rw : Nat} {qv : Value} (h : DskAt R p d k ok ck rk w ow cw rw qv) {l : Int} {dn : Bool} (hl : l < 9223372036854775808 ∧ -9223372036854775808 < l) :
    DskAt (upd R p (.row true 0 [.slice (some ⟨k, ok, none⟩) d.kept.length ck, .slice (some ⟨w, ow, none⟩) d.now.length cw, .slice none 0 0, .int .i64 l, .bool dn] 0)) p ⟨d.kept, d.now, [], l, dn⟩ k ok ck rk w ow cw rw (.slice none 0 0) :=
  ⟨upd_same _ _ _, by rw [upd_ne _ _ h.pk.symm]; exact h.kept, by rw [upd_ne _ _ h.pw.symm]; exact h.now, h.pk, h.pw, h.kw, h.same, h.kc, h.wc, h.kf, h.wf, fun x hx => (by cases hx), h.few, hl, .inl ⟨rfl, rfl⟩⟩

theorem diskSync_down (hR : Heap.le R H) (h : Dsk R p d) (hdn : d.down = true) : ECalls Try.prog 48 #[.pointer (some ⟨p, 0, none⟩)] H fun v H' => v = .int .i64 22 ∧ H' = H := by
  refine ecalls_of_ewp (args := [_]) Try.func48 rfl rfl rfl (by simp [Try.ntmps48]) (by kernel_rfl) ?_
  obtain ⟨k, ok, ck, rk, w, ow, cw, rw', qv, hd⟩ := h
  have hp := hR _ _ hd.row
  rw [hdn] at hp
  simp (disch := first | omega | assumption | decide | (simp <;> omega) | fail) [facts, hp]
theorem diskSync_off (hR : Heap.le R H) (h : Dsk R p d) (hdn : d.down = false) (hpw : (powZ d).down = true) : ECalls Try.prog 48 #[.pointer (some ⟨p, 0, none⟩)] H fun v H' => v = .int .i64 22 ∧ ∃ R', Own H R H' R' ∧ Dsk R' p (powZ d) := by
  refine ecalls_of_ewp (args := [_]) Try.func48 rfl rfl rfl (by simp [Try.ntmps48]) (by kernel_rfl) ?_
  have cp := diskPower_c hR h
  have he : powE d = 22 := by simp [powE, hpw]
  rw [he] at cp
  obtain ⟨k, ok, ck, rk, w, ow, cw, rw', qv, hd⟩ := h
  have hp := hR _ _ hd.row
  rw [hdn] at hp
  simp (disch := first | omega | assumption | decide | (simp <;> omega) | fail) [facts, hp]
  refine cp.mono ?_
  rintro v H3 ⟨rfl, R', hown, hd'⟩
  simp (disch := first | omega | assumption | decide | (simp <;> omega) | fail) [facts, ]
  exact ⟨_, Heap.le_refl _, R', hown, hd'⟩
def syncZ (d : DZ) : DZ := { powZ d with kept := applyW d.kept d.wait, wait := [] }
def syncInv (H0 R0 : Heap) (p : Nat) (d : DZ) (k ok ck rk w ow cw rw : Nat) (qv : Value) (s : St) : Prop :=
  ∃ (j : Nat) (R1 : Heap), j ≤ d.wait.length ∧ s.env 0 = .pointer (some ⟨p, 0, none⟩) ∧ s.env 18 = qv ∧ s.env 19 = .int .i64 d.wait.length ∧ s.env 20 = .int .i64 j ∧ Own H0 R0 s.heap R1 ∧ DskAt R1 p { d with kept := applyW d.kept (d.wait.take j) } k ok ck rk w ow cw rw qv
set_option maxHeartbeats 1000000 in
theorem diskSync_ok (hR : Heap.le R H) (h : Dsk R p d) (hdn : d.down = false) (hpw : (powZ d).down = false) (hw : d.wait.length ≤ 1000000) : ECalls Try.prog 48 #[.pointer (some ⟨p, 0, none⟩)] H fun v H' => v = .int .i64 0 ∧ ∃ R', Own H R H' R' ∧ Dsk R' p (syncZ d) := by
  refine ecalls_of_ewp (args := [_]) Try.func48 rfl rfl rfl (by simp [Try.ntmps48]) (by kernel_rfl) ?_
  have cp := diskPower_c hR h
  have he : powE d = 0 := by simp [powE, hpw]
  rw [he] at cp
  have hp0 : ∃ c0 c1 c2 c3, H p = some (.row true 0 [c0, c1, c2, c3, .bool false] 0) := by
    obtain ⟨k, ok, ck, rk, w, ow, cw, rw', qv, hd⟩ := h
    have := hR _ _ hd.row
    rw [hdn] at this
    exact ⟨_, _, _, _, this⟩
  obtain ⟨c0, c1, c2, c3, hp0⟩ := hp0
  simp (disch := first | omega | assumption | decide | (simp <;> omega) | fail) [facts, hp0]
  refine cp.mono ?_
  rintro v H3 ⟨rfl, R3, hown, hd3⟩
  obtain ⟨s1, s2, s3⟩ := powZ_same d
  unfold syncZ
  rw [← s1, ← s3]
  rw [← s3] at hw
  generalize powZ d = d at *
  obtain ⟨k, ok, ck, rk, w, ow, cw, rw', qv, hd⟩ := hd3
  have hp := hown.le _ _ hd.row
  obtain ⟨aq, cq, rfl, hsq, hcq⟩ := hd.wait.sl hown.le
  simp (disch := first | omega | assumption | decide | (simp <;> omega) | fail) [facts, hp]
  refine w_loop (syncInv H R p d k ok ck rk w ow cw rw' (.slice aq d.wait.length cq)) (fun s => d.wait.length - (intOf (s.env 20)).toNat) ?_ ?_
  · exact ⟨0, R3, Nat.zero_le _, by simp, by simp, by simp, by simp, hown, by simpa [applyW] using hd⟩
  clear hp hsq hcq hown hd
  rintro ⟨env, G⟩ ⟨j, R1, hj, e0, e18, e19, e20, own1, hd⟩
  simp only at e0 e18 e19 e20 own1
  have hp := own1.le _ _ hd.row
  by_cases hlt : j < d.wait.length
  · have hltI : (j : Int) < (d.wait.length : Int) := by omega
    obtain ⟨x, hx⟩ : ∃ x, d.wait[j]? = some x := ⟨_, List.getElem?_eq_getElem hlt⟩
    obtain ⟨aq', cq', e, hsq, _⟩ := hd.wait.sl own1.le
    simp only [Value.slice.injEq] at e
    obtain ⟨rfl, _, rfl⟩ := e
    simp only at hsq
    obtain ⟨q, o, rfl⟩ := hsq.lit (by omega)
    have rx := hsq.el wr65 hx (j := 0) (r := 65) (by decide) (by decide)
    rw [List.drop_zero, wr_take, Nat.add_zero] at rx
    simp (disch := first | omega | assumption | decide | (simp <;> omega) | fail) [facts, e0, e18, e19, e20, hltI, rx]
    refine fresh_intro fun b hb => ?_
    simp (disch := first | omega | assumption | decide | (simp <;> omega) | fail) [facts, rep_drop, upd_upd]
    have l5 : upd G b (.row true 0 x.cells 0) b = some (.row true 0 (.int .i64 x.n :: x.s.cells) 0) := upd_same G b (.row true 0 x.cells 0)
    have own2 := own1.grow (le_upd (.row true 0 x.cells 0) hb)
    generalize upd G b (.row true 0 x.cells 0) = G2 at *
    have hp2 := own2.le _ _ hd.row
    have hk2 := own2.le _ _ hd.kept
    have hxn : x.n < (applyW d.kept (d.wait.take j)).length := hd.inn x (List.mem_of_getElem? hx)
    have hxI : (x.n : Int) < ((applyW d.kept (d.wait.take j)).length : Int) := by omega
    have hlk : (rowsC Sec.cells (applyW d.kept (d.wait.take j))).length = (applyW d.kept (d.wait.take j)).length * 64 := rowsC_len sec64 _
    have hfit : x.n * 64 + 64 ≤ (applyW d.kept (d.wait.take j)).length * 64 := by omega
    have own3 := own2.set hd.kept (.row true ok (rowsC Sec.cells ((applyW d.kept (d.wait.take j)).set x.n x.s)) rk)
    have hd3 := hd.setKept ((applyW d.kept (d.wait.take j)).set x.n x.s) (by simp)
    refine w_plan (P := Try.prog) (by simp [facts]) (opsP [0,1,2,3,4,5,6,7,8,9] .done) ?_ ?_
    · decide +kernel
    simp (disch := first | omega | assumption | decide | (simp <;> omega) | fail) [facts, e0, e18, e19, e20, hp2, l5, sec_take, hxI, hk2, rowsC_set sec64]
    have hnext : applyW d.kept (d.wait.take (j + 1)) = (applyW d.kept (d.wait.take j)).set x.n x.s := by
      rw [take_snoc hx, applyW_app]; rfl
    refine ⟨_, Heap.le_refl _, ⟨j + 1, _, by omega, by simp [e0], by simp [e18], by simp [e19], by simp, own3, by rw [hnext]; exact hd3⟩, by simp [intOf, e20]; omega⟩
  · have hje : j = d.wait.length := by omega
    subst hje
    rw [List.take_length] at hd
    simp (disch := first | omega | assumption | decide | (simp <;> omega) | fail) [facts, e0, e18, e19, e20, hp]
    exact ⟨_, Heap.le_refl _, _, own1.set hd.row _, _, _, _, _, _, _, _, _, _, hd.noWait hd.left⟩
end
end Go.Proofs.Ytnmbmccigpljnaa.GL

namespace Go.Proofs.Ytnmbmccigpljnaa.GL
open Go Go.RowKit
set_option maxRecDepth 10000
set_option pp.deepTerms.threshold 8
set_option pp.maxSteps 3000
set_option linter.unusedSimpArgs false
set_option linter.unusedVariables false

/-- The last one that isn't kept. -/
def lastZ (ks : List Bool) : Nat → Int
  | 0 => -1
  | m + 1 => if ks.getD m false = true then lastZ ks m else m
/-- What a crash makes of one write. -/
def stepW (ks : List Bool) (last : Int) (t : Nat) (i : Nat) (kept : List Sec) (x : Wr) : List Sec :=
  if ks.getD i false = true then kept.set x.n x.s else if (i : Int) = last then kept.set x.n (tornS (kept.getD x.n (secOf [])) x.s t) else kept
def crashW (ks : List Bool) (last : Int) (t : Nat) (ws : List Wr) (kept : List Sec) : Nat → List Sec
  | 0 => kept
  | i + 1 => match ws[i]? with
    | some x => stepW ks last t i (crashW ks last t ws kept i) x
    | none => crashW ks last t ws kept i
theorem stepW_len (ks : List Bool) (last : Int) (t i : Nat) (kept : List Sec) (x : Wr) : (stepW ks last t i kept x).length = kept.length := by
  unfold stepW; split
  · simp
  · split <;> simp
theorem crashW_len (ks : List Bool) (last : Int) (t : Nat) (ws : List Wr) (kept : List Sec) : ∀ i, (crashW ks last t ws kept i).length = kept.length
  | 0 => rfl
  | i + 1 => by
    unfold crashW
    split
    · rw [stepW_len, crashW_len ks last t ws kept i]
    · exact crashW_len ks last t ws kept i
def tornN (z : Int) : Nat := (min (max z 0) 64).toNat
def reopenZ (d : DZ) (ks : List Bool) (torn : Int) : DZ :=
  let k := crashW ks (lastZ ks d.wait.length) (tornN torn) d.wait d.kept d.wait.length
  ⟨k, k, [], -1, false⟩

section
variable {H R : Heap} {p : Nat} {d : DZ}
def re1Inv (G : Heap) (p : Nat) (a : Option Addr) (n c : Nat) (ks : List Bool) (len : Nat) (torn : Int) (s : St) : Prop :=
  ∃ j : Nat, j ≤ len ∧ s.heap = G ∧ s.env 0 = .pointer (some ⟨p, 0, none⟩) ∧ s.env 1 = .slice a n c ∧ s.env 2 = .int .i64 torn ∧ s.env 6 = .int .i64 (lastZ ks j) ∧ s.env 14 = .int .i64 len ∧ s.env 15 = .int .i64 j
def re2Inv (H0 R0 : Heap) (p : Nat) (a : Option Addr) (n c : Nat) (ks : List Bool) (torn : Int) (d : DZ) (k ok ck rk w ow cw rw : Nat) (qv : Value) (s : St) : Prop :=
  ∃ (j : Nat) (R1 : Heap), j ≤ d.wait.length ∧ s.env 0 = .pointer (some ⟨p, 0, none⟩) ∧ s.env 1 = .slice a n c ∧ s.env 2 = .int .i64 torn ∧ s.env 6 = .int .i64 (lastZ ks d.wait.length) ∧ s.env 34 = qv ∧ s.env 35 = .int .i64 d.wait.length ∧ s.env 36 = .int .i64 j ∧ Own H0 R0 s.heap R1 ∧ DskAt R1 p { d with kept := crashW ks (lastZ ks d.wait.length) (tornN torn) d.wait d.kept j } k ok ck rk w ow cw rw qv
theorem getD_lt {ks : List Bool} {i n : Nat} (hl : ks.length = n) (hi : i < n) : ks[i]? = some (ks.getD i false) := by
  have hlt : i < ks.length := by omega
  rw [List.getElem?_eq_getElem hlt]
  simp [hlt]
theorem getD_ge {ks : List Bool} {i n : Nat} (hl : ks.length = n) (hi : ¬ i < n) : ks.getD i false = false := by
  have h0 : ks[i]? = none := List.getElem?_eq_none (by omega)
  simp [List.getD, h0]
set_option maxHeartbeats 2000000 in
theorem diskReopen_c {F : Heap} (hR : Heap.le R H) (h : Dsk R p d) (hF : Heap.le F H) (hoff : Off F R) {a : Option Addr} {n c : Nat} {ks : List Bool} (hb : BoA F a n ks) (torn : Int) (hn : n ≤ 1000000) (hw : d.wait.length ≤ 1000000) :
    ECalls Try.prog 22 #[.pointer (some ⟨p, 0, none⟩), .slice a n c, .int .i64 torn] H fun _ H' => ∃ R', Own H R H' R' ∧ Dsk R' p (reopenZ d ks torn) := by
  refine ecalls_of_ewp (args := [_, _, _]) Try.func22 rfl rfl rfl (by simp [Try.ntmps22]) (by kernel_rfl) ?_
  obtain ⟨k, ok, ck, rk, w, ow, cw, rw', qv, hd⟩ := h
  have hp := hR _ _ hd.row
  have hkl := hb.len
  obtain ⟨aq, cq, rfl, hsq, hcq⟩ := hd.wait.sl hR
  simp (disch := first | omega | assumption | decide | (simp <;> omega) | fail) [facts, hp]
  refine w_loop (re1Inv H p a n c ks d.wait.length torn) (fun s => d.wait.length - (intOf (s.env 15)).toNat) ?_ ?_
  · exact ⟨0, Nat.zero_le _, rfl, by simp, by simp, by simp, by simp [lastZ], by simp, by simp⟩
  rintro ⟨env, G⟩ ⟨j, hj, hG, e0, e1, e2, e6, e14, e15⟩
  simp only at hG e0 e1 e2 e6 e14 e15
  subst hG
  by_cases hlt : j < d.wait.length
  · have hltI : (j : Int) < (d.wait.length : Int) := by omega
    by_cases hjn : j < n
    · have hjI : (j : Int) < (n : Int) := by omega
      have hjI2 : ¬ (n : Int) ≤ (j : Int) := by omega
      have hsb := (hb.sl (by omega)).le hF
      obtain ⟨bk, bo, rfl⟩ := hsb.lit (by omega)
      have rb := hsb.at (getD_lt hkl hjn)
      rw [at1_lit] at rb
      cases hkb : ks.getD j false with
      | true =>
        rw [hkb] at rb
        have hl : lastZ ks (j + 1) = lastZ ks j := by show (if ks.getD j false = true then lastZ ks j else (j : Int)) = _; rw [if_pos hkb]
        simp (disch := first | omega | assumption | decide | (simp <;> omega) | fail) [facts, e0, e1, e2, e6, e14, e15, hltI, hjI, hjI2, rb]
        exact ⟨_, Heap.le_refl _, ⟨j + 1, by omega, rfl, by simp [e0], by simp [e1], by simp [e2], by simp [e6, hl], by simp [e14], by simp⟩, by simp [intOf, e15]; omega⟩
      | false =>
        rw [hkb] at rb
        have hl : lastZ ks (j + 1) = j := by show (if ks.getD j false = true then lastZ ks j else (j : Int)) = _; rw [if_neg (by rw [hkb]; decide)]
        simp (disch := first | omega | assumption | decide | (simp <;> omega) | fail) [facts, e0, e1, e2, e6, e14, e15, hltI, hjI, hjI2, rb]
        exact ⟨_, Heap.le_refl _, ⟨j + 1, by omega, rfl, by simp [e0], by simp [e1], by simp [e2], by simp [hl], by simp [e14], by simp⟩, by simp [intOf, e15]; omega⟩
    · have hjI : (n : Int) ≤ (j : Int) := by omega
      have hl : lastZ ks (j + 1) = j := by show (if ks.getD j false = true then lastZ ks j else (j : Int)) = _; rw [if_neg (by rw [getD_ge hkl hjn]; decide)]
      simp (disch := first | omega | assumption | decide | (simp <;> omega) | fail) [facts, e0, e1, e2, e6, e14, e15, hltI, hjI]
      exact ⟨_, Heap.le_refl _, ⟨j + 1, by omega, rfl, by simp [e0], by simp [e1], by simp [e2], by simp [hl], by simp [e14], by simp⟩, by simp [intOf, e15]; omega⟩
  have hje : j = d.wait.length := by omega
  subst hje
  simp (disch := first | omega | assumption | decide | (simp <;> omega) | fail) [facts, e0, e1, e2, e6, e14, e15, hp]
  refine w_loop (re2Inv G R p a n c ks torn d k ok ck rk w ow cw rw' (.slice aq d.wait.length cq)) (fun s => d.wait.length - (intOf (s.env 36)).toNat) ?_ ?_
  · exact ⟨0, R, Nat.zero_le _, by simp [e0], by simp [e1], by simp [e2], by simp [e6], by simp, by simp, by simp, Own.refl hR, hd⟩
  clear hp hsq hcq e0 e1 e2 e6 e14 e15 hlt hj
  rintro ⟨env, G2⟩ ⟨j, R1, hj, e0, e1, e2, e6, e34, e35, e36, own1, hd1⟩
  simp only at e0 e1 e2 e6 e34 e35 e36 own1
  obtain ⟨hF1, hoff1⟩ := own1.frame hF hoff
  have hp := own1.le _ _ hd1.row
  generalize hkj : crashW ks (lastZ ks d.wait.length) (tornN torn) d.wait d.kept j = kj at hd1 hp
  by_cases hlt : j < d.wait.length
  · have hltI : (j : Int) < (d.wait.length : Int) := by omega
    obtain ⟨x, hx⟩ : ∃ x, d.wait[j]? = some x := ⟨_, List.getElem?_eq_getElem hlt⟩
    obtain ⟨aq', cq', e, hsq, _⟩ := hd1.wait.sl own1.le
    simp only [Value.slice.injEq] at e
    obtain ⟨rfl, _, rfl⟩ := e
    simp only at hsq
    obtain ⟨q, o, rfl⟩ := hsq.lit (by omega)
    have rx := hsq.el wr65 hx (j := 0) (r := 65) (by decide) (by decide)
    rw [List.drop_zero, wr_take, Nat.add_zero] at rx
    simp (disch := first | omega | assumption | decide | (simp <;> omega) | fail) [facts, e0, e1, e2, e6, e34, e35, e36, hltI, rx]
    refine fresh_intro fun b hb9 => ?_
    simp (disch := first | omega | assumption | decide | (simp <;> omega) | fail) [facts, rep_drop, upd_upd]
    have l5 : upd G2 b (.row true 0 x.cells 0) b = some (.row true 0 (.int .i64 x.n :: x.s.cells) 0) := upd_same G2 b (.row true 0 x.cells 0)
    have own2 := own1.grow (le_upd (.row true 0 x.cells 0) hb9)
    have hF2 := Heap.le_trans hF1 (le_upd (.row true 0 x.cells 0) hb9)
    generalize upd G2 b (.row true 0 x.cells 0) = G3 at *
    have hp2 := own2.le _ _ hd1.row
    have hk2 := own2.le _ _ hd1.kept
    have hnext : ∀ ks', stepW ks (lastZ ks d.wait.length) (tornN torn) j kj x = ks' → crashW ks (lastZ ks d.wait.length) (tornN torn) d.wait d.kept (j + 1) = ks' := fun ks' e => by
      unfold crashW; rw [hx, hkj]; exact e
    have hxn : x.n < kj.length := hd1.inn x (List.mem_of_getElem? hx)
    have hxI : (x.n : Int) < (kj.length : Int) := by omega
    have hlk : (rowsC Sec.cells kj).length = kj.length * 64 := rowsC_len sec64 _
    have hfit : x.n * 64 + 64 ≤ kj.length * 64 := by omega
    have ht : min (max torn 0) 64 = (tornN torn : Int) := by unfold tornN; omega
    have ht64 : tornN torn ≤ 64 := by unfold tornN; omega
    have hsx : SlA G3 (some ⟨b, 1, none⟩) 64 1 (x.s.b.map u8V) := SlA.row l5 (Nat.zero_le _) (by simp [x.s.len]) (by simp) (by simp [Sec.cells]; rw [List.take_of_length_le (by simp [x.s.len])])
    by_cases hkb : ks.getD j false = true
    · have hjn : j < n := by
        rcases Nat.lt_or_ge j n with h0 | h0
        · exact h0
        · rw [getD_ge hkl (by omega)] at hkb; cases hkb
      have hjI : (j : Int) < (n : Int) := by omega
      have hsb := (hb.sl (by omega)).le hF2
      obtain ⟨bk, bo, rfl⟩ := hsb.lit (by omega)
      have rb := hsb.at (getD_lt hkl hjn)
      rw [at1_lit, hkb] at rb
      have hstep : stepW ks (lastZ ks d.wait.length) (tornN torn) j kj x = kj.set x.n x.s := by unfold stepW; rw [if_pos hkb]
      simp (disch := first | omega | assumption | decide | (simp <;> omega) | fail) [facts, e0, e1, e2, e6, e34, e35, e36, hjI, rb]
      refine w_plan (P := Try.prog) (by simp [facts]) (opsP [0,1,2,3,4,5,6,7,8,9] .done) ?_ ?_
      · decide +kernel
      simp (disch := first | omega | assumption | decide | (simp <;> omega) | fail) [facts, e0, e1, e2, e6, e34, e35, e36, hp2, l5, sec_take, hxI, hk2, rowsC_set sec64]
      refine ⟨_, Heap.le_refl _, ⟨j + 1, _, by omega, by simp [e0], by simp [e1], by simp [e2], by simp [e6], by simp [e34], by simp [e35], by simp, own2.set hd1.kept _, by rw [hnext _ hstep]; exact hd1.setKept _ (by simp)⟩, by simp [intOf, e36]; omega⟩
    have hkf : ks.getD j false = false := by simpa using hkb
    by_cases hlast : (j : Int) = lastZ ks d.wait.length
    · obtain ⟨old, hold⟩ : ∃ old, kj[x.n]? = some old := ⟨_, List.getElem?_eq_getElem hxn⟩
      have hgd : kj.getD x.n (secOf []) = old := by simp [List.getD, hold]
      have hstep : stepW ks (lastZ ks d.wait.length) (tornN torn) j kj x = kj.set x.n (tornS old x.s (tornN torn)) := by unfold stepW; rw [if_neg hkb, if_pos hlast, hgd]
      have hpart : splice (rowsC Sec.cells kj) (x.n * 64) ((x.s.b.map u8V).take (tornN torn)) = rowsC Sec.cells (kj.set x.n (tornS old x.s (tornN torn))) := by
        have := rowsC_part sec64 (j := 0) (ys := x.s.cells.take (tornN torn)) hold (by rw [List.length_take]; simp; omega) (torn_cells old x.s (tornN torn) ht64)
        rw [Nat.add_zero] at this
        exact this
      by_cases hjn : j < n
      · have hjI : (j : Int) < (n : Int) := by omega
        have hsb := (hb.sl (by omega)).le hF2
        obtain ⟨bk, bo, rfl⟩ := hsb.lit (by omega)
        have rb := hsb.at (getD_lt hkl hjn)
        rw [at1_lit, hkf] at rb
        simp (disch := first | omega | assumption | decide | (simp <;> omega) | fail) [facts, e0, e1, e2, e6, e34, e35, e36, hjI, rb, ← hlast]
        refine w_plan (P := Try.prog) (by simp [facts]) (opsP [0,1,2,4,7,8,9,11,12] (.both (opsP [3,5,6,10,13] .done) (opsP [5,3,6,10,13] .done))) ?_ ?_
        · decide +kernel
        simp (disch := first | omega | assumption | decide | (simp <;> omega) | fail) [facts, e0, e2, hp2, l5, hxI, ht]
        constructor
        all_goals
          refine copy_own (e := 5) (s := 1) (n := 64) (ys := x.s.b.map u8V) (by simp [facts]) (by simp [facts]) (src_sl (e1 := 5) (z := .int .u8 0) (by simp [facts]) (by simp [facts]) (by simp [facts]) hsx) (by simp [facts]) (by intro k z e; cases e) (by simp [x.s.len]) (all_u8 _) hk2 (Nat.le_add_right _ _) (by rw [Nat.add_sub_cancel_left, hlk]; omega) ?_
          rw [Nat.add_sub_cancel_left, Nat.mul_one, Nat.min_eq_right ht64]
          rw [hpart]
          simp (disch := first | omega | assumption | decide | (simp <;> omega) | fail) [facts, e0, e1, e2, e6, e34, e35, e36]
          refine ⟨_, Heap.le_refl _, ⟨j + 1, _, by omega, by simp [e0], by simp [e1], by simp [e2], by simp [e6], by simp [e34], by simp [e35], by simp, own2.set hd1.kept _, by rw [hnext _ hstep]; exact hd1.setKept _ (by simp)⟩, by simp [intOf, e36]; omega⟩
      · have hjI : ¬ (j : Int) < (n : Int) := by omega
        simp (disch := first | omega | assumption | decide | (simp <;> omega) | fail) [facts, e0, e1, e2, e6, e34, e35, e36, hjI, ← hlast]
        refine w_plan (P := Try.prog) (by simp [facts]) (opsP [0,1,2,4,7,8,9,11,12] (.both (opsP [3,5,6,10,13] .done) (opsP [5,3,6,10,13] .done))) ?_ ?_
        · decide +kernel
        simp (disch := first | omega | assumption | decide | (simp <;> omega) | fail) [facts, e0, e2, hp2, l5, hxI, ht]
        constructor
        all_goals
          refine copy_own (e := 5) (s := 1) (n := 64) (ys := x.s.b.map u8V) (by simp [facts]) (by simp [facts]) (src_sl (e1 := 5) (z := .int .u8 0) (by simp [facts]) (by simp [facts]) (by simp [facts]) hsx) (by simp [facts]) (by intro k z e; cases e) (by simp [x.s.len]) (all_u8 _) hk2 (Nat.le_add_right _ _) (by rw [Nat.add_sub_cancel_left, hlk]; omega) ?_
          rw [Nat.add_sub_cancel_left, Nat.mul_one, Nat.min_eq_right ht64]
          rw [hpart]
          simp (disch := first | omega | assumption | decide | (simp <;> omega) | fail) [facts, e0, e1, e2, e6, e34, e35, e36]
          refine ⟨_, Heap.le_refl _, ⟨j + 1, _, by omega, by simp [e0], by simp [e1], by simp [e2], by simp [e6], by simp [e34], by simp [e35], by simp, own2.set hd1.kept _, by rw [hnext _ hstep]; exact hd1.setKept _ (by simp)⟩, by simp [intOf, e36]; omega⟩
    · have hstep : stepW ks (lastZ ks d.wait.length) (tornN torn) j kj x = kj := by unfold stepW; rw [if_neg hkb, if_neg hlast]
      by_cases hjn : j < n
      · have hjI : (j : Int) < (n : Int) := by omega
        have hsb := (hb.sl (by omega)).le hF2
        obtain ⟨bk, bo, rfl⟩ := hsb.lit (by omega)
        have rb := hsb.at (getD_lt hkl hjn)
        rw [at1_lit, hkf] at rb
        simp (disch := first | omega | assumption | decide | (simp <;> omega) | fail) [facts, e0, e1, e2, e6, e34, e35, e36, hjI, rb, hlast]
        refine ⟨_, Heap.le_refl _, ⟨j + 1, _, by omega, by simp [e0], by simp [e1], by simp [e2], by simp [e6], by simp [e34], by simp [e35], by simp, own2, by rw [hnext _ hstep]; exact hd1⟩, by simp [intOf, e36]; omega⟩
      · have hjI : ¬ (j : Int) < (n : Int) := by omega
        simp (disch := first | omega | assumption | decide | (simp <;> omega) | fail) [facts, e0, e1, e2, e6, e34, e35, e36, hjI, hlast]
        refine ⟨_, Heap.le_refl _, ⟨j + 1, _, by omega, by simp [e0], by simp [e1], by simp [e2], by simp [e6], by simp [e34], by simp [e35], by simp, own2, by rw [hnext _ hstep]; exact hd1⟩, by simp [intOf, e36]; omega⟩
  · have hje : j = d.wait.length := by omega
    subst hje
    have hlk : kj.length = d.kept.length := by rw [← hkj, crashW_len]
    have hkl1 : (rowsC Sec.cells kj).length = d.kept.length * 64 := by rw [rowsC_len sec64, hlk]
    have hnl1 : (rowsC Sec.cells d.now).length = d.now.length * 64 := rowsC_len sec64 _
    have hsame := hd.same
    simp (disch := first | omega | assumption | decide | (simp <;> omega) | fail) [facts, e0, e1, e2, e6, e34, e35, e36]
    refine w_plan (P := Try.prog) (by simp [facts]) (opsP [0,1,2,3,4,5,6,7,8] .done) ?_ ?_
    · decide +kernel
    simp (disch := first | omega | assumption | decide | (simp <;> omega) | fail) [facts, e0, hp]
    refine copy_own (e := 83) (s := 64) (n := kj.length) (ys := rowsC Sec.cells kj) (by simp [facts]) (by simp [facts]) (src_sl (e1 := 83) (z := .agg (rep 64 (.int .u8 0)).toArray) (by simp [facts]) (by simp [facts]) (by simp [facts]) (hd1.keptSl own1.le)) (by simp [facts]) (by intro k z e; cases e) (by rw [hkl1, hlk]) (rowsC_one sec1 _) (own1.le _ _ hd1.now) (Nat.le_refl _) (by simp only [hnl1]; omega) ?_
    rw [Nat.sub_self, hlk, hsame, Nat.min_self, ← hkl1, List.take_length, splice_all (by rw [hkl1, hnl1, hsame])]
    have own3 := own1.set hd1.now (.row true ow (rowsC Sec.cells kj) rw')
    have hd3 := hd1.setNow kj (by rw [hlk]; exact hsame.symm)
    have hp3 := own3.le _ _ hd3.row
    simp (disch := first | omega | assumption | decide | (simp <;> omega) | fail) [facts, e0, hp3, upd_upd]
    have hres : reopenZ d ks torn = ⟨kj, kj, [], -1, false⟩ := by unfold reopenZ; simp only [hkj]
    rw [hres]
    exact ⟨_, Heap.le_refl _, _, own3.set hd3.row _, _, _, _, _, _, _, _, _, _, hd3.noWait (by omega)⟩
end
end Go.Proofs.Ytnmbmccigpljnaa.GL

namespace Go.Proofs.Ytnmbmccigpljnaa.GL
open Go Go.RowKit
set_option maxRecDepth 10000
set_option pp.deepTerms.threshold 8
set_option pp.maxSteps 3000
set_option linter.unusedSimpArgs false
set_option linter.unusedVariables false

theorem cloneDsk {H0 H1 H2 H3 : Heap} {p k w : Nat} {d : DZ} {ok ck rk ow cw rw : Nat} {qv : Value} {R : Heap} {r0 : List Value} (hd : DskAt R p d k ok ck rk w ow cw rw qv) (h01 : Heap.le H0 H1) {b3 k' o1 c1 r1 w' o2 c2 r2 : Nat} {v3 : Value} (hb3 : H0 b3 = none) (hr0 : H1 = upd H0 b3 (.row true 0 r0 0))
    (hk : H1 k' = none) (h2 : H2 = upd H1 k' (.row true o1 (rowsC Sec.cells d.kept) r1)) (f1 : d.kept.length ≤ c1) (g1 : c1 * 64 ≤ d.kept.length * 64 + r1)
    (hw : H2 w' = none) (h3 : H3 = upd H2 w' (.row true o2 (rowsC Sec.cells d.now) r2)) (f2 : d.now.length ≤ c2) (g2 : c2 * 64 ≤ d.now.length * 64 + r2)
    {H4 : Heap} (h4 : (qv = .slice none 0 0 ∧ d.wait = [] ∧ v3 = .slice none 0 0 ∧ H4 = H3) ∨ ∃ b o cap room, H3 b = none ∧ H4 = upd H3 b (.row true o (rowsC Wr.cells d.wait) room) ∧ v3 = .slice (some ⟨b, o, none⟩) d.wait.length cap ∧ d.wait.length ≤ cap ∧ cap * 65 ≤ d.wait.length * 65 + room) :
    ∃ R', Own H0 (fun _ => none) (upd H4 b3 (.row true 0 [.slice (some ⟨k', o1, none⟩) d.kept.length c1, .slice (some ⟨w', o2, none⟩) d.now.length c2, v3, .int .i64 d.left, .bool d.down] 0)) R' ∧ Dsk R' b3 d := by
  have h1b : H1 b3 = some (.row true 0 r0 0) := by rw [hr0, upd_same]
  have bk : b3 ≠ k' := (ne_of_none hk h1b).symm
  have h2k : H2 k' = some (.row true o1 (rowsC Sec.cells d.kept) r1) := by rw [h2, upd_same]
  have h2b : H2 b3 = some (.row true 0 r0 0) := by rw [h2, upd_ne _ _ bk, h1b]
  have bw : b3 ≠ w' := (ne_of_none hw h2b).symm
  have kw : k' ≠ w' := (ne_of_none hw h2k).symm
  have h3b : H3 b3 = some (.row true 0 r0 0) := by rw [h3, upd_ne _ _ bw, h2b]
  have h3k : H3 k' = some (.row true o1 (rowsC Sec.cells d.kept) r1) := by rw [h3, upd_ne _ _ kw, h2k]
  have h3w : H3 w' = some (.row true o2 (rowsC Sec.cells d.now) r2) := by rw [h3, upd_same]
  have ow1 : Own H0 (fun _ => none) H1 (upd (fun _ => none) b3 (.row true 0 r0 0)) := by rw [hr0]; exact (Own.nil (Heap.le_refl H0)).add hb3 _
  have ow2 := ow1.add hk (.row true o1 (rowsC Sec.cells d.kept) r1)
  rw [← h2] at ow2
  have ow3 := ow2.add hw (.row true o2 (rowsC Sec.cells d.now) r2)
  rw [← h3] at ow3
  rcases h4 with ⟨_, e2, e3, e4⟩ | ⟨b, o, cap, room, e1, e2, e3, e4, e5⟩
  · subst e3 e4
    refine ⟨_, ow3.set (p := b3) (o0 := .row true 0 r0 0) (by rw [upd_ne _ _ bw, upd_ne _ _ bk, upd_same]) _, k', o1, c1, r1, w', o2, c2, r2, .slice none 0 0, ?_⟩
    exact ⟨upd_same _ _ _, by rw [upd_ne _ _ bk.symm, upd_ne _ _ kw, upd_same], by rw [upd_ne _ _ bw.symm, upd_same], bk, bw, kw, hd.same, f1, f2, g1, g2, hd.inn, hd.few, hd.left, .inl ⟨rfl, e2⟩⟩
  · subst e3
    have nb : b ≠ b3 := ne_of_none e1 h3b
    have nk : b ≠ k' := ne_of_none e1 h3k
    have nw : b ≠ w' := ne_of_none e1 h3w
    have ow4 := ow3.add e1 (.row true o (rowsC Wr.cells d.wait) room)
    rw [← e2] at ow4
    refine ⟨_, ow4.set (p := b3) (o0 := .row true 0 r0 0) (by rw [upd_ne _ _ nb.symm, upd_ne _ _ bw, upd_ne _ _ bk, upd_same]) _, k', o1, c1, r1, w', o2, c2, r2, .slice (some ⟨b, o, none⟩) d.wait.length cap, ?_⟩
    exact ⟨upd_same _ _ _, by rw [upd_ne _ _ bk.symm, upd_ne _ _ nk.symm, upd_ne _ _ kw, upd_same], by rw [upd_ne _ _ bw.symm, upd_ne _ _ nw.symm, upd_same], bk, bw, kw, hd.same, f1, f2, g1, g2, hd.inn, hd.few, hd.left, .inr ⟨b, o, cap, room, rfl, by rw [upd_ne _ _ nb, upd_same], nb, nk, nw, e4, e5⟩⟩
section
variable {H R : Heap} {p : Nat} {d : DZ}
end
end Go.Proofs.Ytnmbmccigpljnaa.GL

namespace Go.Proofs.Ytnmbmccigpljnaa.GL
open Go Go.RowKit
set_option maxRecDepth 10000
set_option pp.deepTerms.threshold 8
set_option pp.maxSteps 3000
set_option linter.unusedSimpArgs false
set_option linter.unusedVariables false

def oneH (b : Nat) (o : GObj) : Heap := upd (fun _ => none) b o
theorem oneH_le {H : Heap} {b : Nat} {o : GObj} (h : H b = some o) : Heap.le (oneH b o) H := fun i p e => by
  unfold oneH at e
  by_cases hi : i = b
  · subst hi; rw [upd_same] at e; rw [h, e]
  · rw [upd_ne _ _ hi] at e; cases e
theorem oneH_off {R : Heap} {b : Nat} {o : GObj} (h : R b = none) : Off (oneH b o) R := fun i p e => by
  unfold oneH at e
  by_cases hi : i = b
  · subst hi; exact h
  · rw [upd_ne _ _ hi] at e; cases e
theorem Own.fresh {H R H1 R1 : Heap} (a : Own H R H1 R1) {b : Nat} (hb : H1 b = none) : R1 b = none := le_of_none a.le hb
theorem Own.all {H H1 R1 : Heap} (a : Own H (fun _ => none) H1 R1) : Heap.le H H1 := fun b o h => (a.mv b o rfl h).2
theorem Own.off {H H1 R1 : Heap} (a : Own H (fun _ => none) H1 R1) : Off H R1 := fun b o h => (a.mv b o rfl h).1

def writeE (d : DZ) (n : Int) : Int := if outZ d n ≠ 0 then outZ d n else powE d
def writeD (d : DZ) (n : Int) (bs : List UInt8) : DZ := if outZ d n ≠ 0 then d else if (powZ d).down = true then powZ d else writeZ d n.toNat (secOf bs)
def syncE (d : DZ) : Int := if d.down = true then 22 else powE d
def syncD (d : DZ) : DZ := if d.down = true then d else if (powZ d).down = true then powZ d else syncZ d
section
variable {H R F : Heap} {p : Nat} {d : DZ}
theorem outZ_zero {n : Int} (h : outZ d n = 0) : d.down = false ∧ ∃ j : Nat, n = j ∧ j < d.kept.length := by
  unfold outZ at h
  cases hd : d.down with
  | true => rw [hd] at h; simp at h
  | false =>
    rw [hd] at h
    simp at h
    exact ⟨rfl, n.toNat, by omega, by omega⟩
theorem diskWrite_c (hR : Heap.le R H) (h : Dsk R p d) (hF : Heap.le F H) (hoff : Off F R) (m : Int) {a : Option Addr} {n c : Nat} {bs : List UInt8} (hb : ByA F a n bs) (hn : n ≤ 1000000) (hw : d.wait.length ≤ 1000000) :
    ECalls Try.prog 47 #[.pointer (some ⟨p, 0, none⟩), .int .i64 m, .slice a n c] H fun v H' => v = .int .i64 (writeE d m) ∧ ∃ R', Own H R H' R' ∧ Dsk R' p (writeD d m bs) := by
  unfold writeE writeD
  by_cases ho : outZ d m = 0
  · obtain ⟨hdn, j, rfl, hj⟩ := outZ_zero ho
    cases hpw : (powZ d).down with
    | true =>
      refine (diskWrite_down hR h (j : Int) (.slice a n c) ho hpw).mono ?_
      rintro v H' ⟨rfl, R', h1, h2⟩
      refine ⟨by simp [ho, powE, hpw], R', h1, ?_⟩
      simpa [ho, hpw] using h2
    | false =>
      refine (diskWrite_in hR h hF hoff j hb hn hj hdn hpw hw).mono ?_
      rintro v H' ⟨rfl, R', h1, h2⟩
      refine ⟨by simp [ho, powE, hpw], R', h1, ?_⟩
      simpa [ho, hpw] using h2
  · refine (diskWrite_out hR h m (.slice a n c) ho).mono ?_
    rintro v H' ⟨rfl, rfl⟩
    exact ⟨by rw [if_pos ho], R, Own.refl hR, by rw [if_pos ho]; exact h⟩
theorem diskSync_c (hR : Heap.le R H) (h : Dsk R p d) (hw : d.wait.length ≤ 1000000) :
    ECalls Try.prog 48 #[.pointer (some ⟨p, 0, none⟩)] H fun v H' => v = .int .i64 (syncE d) ∧ ∃ R', Own H R H' R' ∧ Dsk R' p (syncD d) := by
  unfold syncE syncD
  cases hdn : d.down with
  | true =>
    refine (diskSync_down hR h hdn).mono ?_
    rintro v H' ⟨rfl, rfl⟩
    exact ⟨by simp, R, Own.refl hR, by simpa using h⟩
  | false =>
    cases hpw : (powZ d).down with
    | true =>
      refine (diskSync_off hR h hdn hpw).mono ?_
      rintro v H' ⟨rfl, R', h1, h2⟩
      exact ⟨by simp [powE, hpw], R', h1, by simpa using h2⟩
    | false =>
      refine (diskSync_ok hR h hdn hpw hw).mono ?_
      rintro v H' ⟨rfl, R', h1, h2⟩
      exact ⟨by simp [powE, hpw], R', h1, by simpa using h2⟩
end
end Go.Proofs.Ytnmbmccigpljnaa.GL
