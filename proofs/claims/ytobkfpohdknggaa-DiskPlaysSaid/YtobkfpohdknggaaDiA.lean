/- Layer 3: a disk: what it is in memory; the small functions. -/
import Derived.Test.YtobkfpohdknggaaGlT
import Derived.Test.YtobkfpohdknggaaGlR
namespace Go.Proofs.Ytobkfpohdknggaa.GL
open Go Go.RowKit
set_option maxRecDepth 10000
set_option pp.deepTerms.threshold 8
set_option pp.maxSteps 3000
set_option linter.unusedSimpArgs false
set_option linter.unusedVariables false

structure Sec where
  b : List UInt8
  len : b.length = 64
def Sec.cells (x : Sec) : List Value := x.b.map u8V
theorem sec64 (x : Sec) : x.cells.length = 64 := by simp [Sec.cells, x.len]
theorem sec1 (x : Sec) : x.cells.all (·.oneCell') = true := all_u8 x.b
attribute [simp] sec64 sec1
structure Wr where
  n : Nat
  s : Sec
def Wr.cells (x : Wr) : List Value := .int .i64 x.n :: x.s.cells
theorem wr65 (x : Wr) : x.cells.length = 65 := by simp [Wr.cells]
theorem wr1 (x : Wr) : x.cells.all (·.oneCell') = true := by rw [Wr.cells, List.all_cons, sec1]; rfl
attribute [simp] wr65 wr1
/-- A sector out of any bytes. -/
def secOf (bs : List UInt8) : Sec := ⟨(bs ++ List.replicate 64 0).take 64, by simp⟩
/-- A part of a sector is another one's. -/
def tornS (old new : Sec) (t : Nat) : Sec := ⟨new.b.take t ++ old.b.drop t, by simp [old.len, new.len]; omega⟩
theorem secOf_nil : (secOf []).cells = rep 64 (.int .u8 0) := by rw [rep_u8]; rfl
theorem sec_copy (bs : List UInt8) : splice (rep 64 (.int .u8 0)) 0 ((bs.map u8V).take (min bs.length 64)) = (secOf bs).cells := by
  rw [rep_u8]
  unfold splice secOf Sec.cells
  rw [List.take_zero, List.nil_append, Nat.zero_add, ← List.map_take, ← List.map_drop, ← List.map_append]
  congr 1
  show _ = (bs ++ List.replicate 64 0).take 64
  rw [List.take_append, List.take_replicate, List.length_map, List.length_take, List.drop_replicate]
  congr 1
  · by_cases h : bs.length ≤ 64
    · rw [Nat.min_eq_left h, List.take_length, List.take_of_length_le h]
    · rw [Nat.min_eq_right (by omega)]
  · congr 1; omega
theorem torn_cells (old new : Sec) (t : Nat) (ht : t ≤ 64) : (tornS old new t).cells = splice old.cells 0 (new.cells.take t) := by
  unfold splice tornS Sec.cells
  rw [List.take_zero, List.nil_append, Nat.zero_add, ← List.map_take, List.length_map, List.length_take, new.len, Nat.min_eq_left ht, List.map_append, List.map_drop]
theorem torn_all (old new : Sec) (t : Nat) (ht : 64 ≤ t) : tornS old new t = new := by
  cases new with | mk b hb => cases old with | mk c hc =>
  unfold tornS
  congr 1
  simp only
  rw [List.take_of_length_le (by omega), List.drop_of_length_le (by omega), List.append_nil]

structure DZ where
  kept : List Sec
  now : List Sec
  wait : List Wr
  left : Int
  down : Bool
def WaitAt (R : Heap) (v : Value) (ws : List Wr) (p k w : Nat) : Prop :=
  (v = .slice none 0 0 ∧ ws = []) ∨ ∃ q o cap room, v = .slice (some ⟨q, o, none⟩) ws.length cap ∧ R q = some (.row true o (rowsC Wr.cells ws) room) ∧ q ≠ p ∧ q ≠ k ∧ q ≠ w ∧ ws.length ≤ cap ∧ cap * 65 ≤ ws.length * 65 + room
theorem WaitAt.sl {R H : Heap} {v : Value} {ws : List Wr} {p k w : Nat} (h : WaitAt R v ws p k w) (hl : Heap.le R H) : ∃ a c, v = .slice a ws.length c ∧ SlA H a ws.length 65 (rowsC Wr.cells ws) ∧ ws.length ≤ c := by
  rcases h with ⟨rfl, rfl⟩ | ⟨q, o, cap, room, rfl, hr, _, _, _, hc, _⟩
  · exact ⟨none, 0, rfl, SlA.nil _ _, Nat.le_refl _⟩
  · exact ⟨_, cap, rfl, SlA.row (hl _ _ hr) (Nat.le_refl _) (rowsC_len wr65 ws) (by rw [rowsC_len wr65]; omega) (by rw [Nat.sub_self, List.drop_zero, ← rowsC_len wr65 ws, List.take_length]), hc⟩
/-- A disk's memory. -/
structure DskAt (R : Heap) (p : Nat) (d : DZ) (k ok ck rk w ow cw rw : Nat) (qv : Value) : Prop where
  row : R p = some (.row true 0 [.slice (some ⟨k, ok, none⟩) d.kept.length ck, .slice (some ⟨w, ow, none⟩) d.now.length cw, qv, .int .i64 d.left, .bool d.down] 0)
  kept : R k = some (.row true ok (rowsC Sec.cells d.kept) rk)
  now : R w = some (.row true ow (rowsC Sec.cells d.now) rw)
  pk : p ≠ k
  pw : p ≠ w
  kw : k ≠ w
  same : d.now.length = d.kept.length
  kc : d.kept.length ≤ ck
  wc : d.now.length ≤ cw
  kf : ck * 64 ≤ d.kept.length * 64 + rk
  wf : cw * 64 ≤ d.now.length * 64 + rw
  inn : ∀ x ∈ d.wait, x.n < d.kept.length
  few : d.kept.length ≤ 4096
  left : d.left < 9223372036854775808 ∧ -9223372036854775808 < d.left
  wait : WaitAt R qv d.wait p k w
def Dsk (R : Heap) (p : Nat) (d : DZ) : Prop := ∃ k ok ck rk w ow cw rw qv, DskAt R p d k ok ck rk w ow cw rw qv

def newZ (n : Nat) : DZ := ⟨List.replicate n (secOf []), List.replicate n (secOf []), [], -1, false⟩
theorem zeros_sec (n : Nat) : zeros (rep 64 (.int .u8 0)) n = rowsC Sec.cells (List.replicate n (secOf [])) := by
  unfold zeros rowsC
  rw [List.map_replicate, secOf_nil]
theorem newDsk {R : Heap} {p k w m : Nat} (pk : p ≠ k) (pw : p ≠ w) (kw : k ≠ w) (hm : m ≤ 4096) (h1 : R p = some (.row true 0 [.slice (some ⟨k, 0, none⟩) m m, .slice (some ⟨w, 0, none⟩) m m, .slice none 0 0, .int .i64 (-1), .bool false] 0))
    (h2 : R k = some (.row true 0 (rowsC Sec.cells (List.replicate m (secOf []))) 0)) (h3 : R w = some (.row true 0 (rowsC Sec.cells (List.replicate m (secOf []))) 0)) : Dsk R p (newZ m) :=
  ⟨k, 0, m, 0, w, 0, m, 0, .slice none 0 0, by simpa [newZ] using h1, h2, h3, pk, pw, kw, by simp [newZ], by simp [newZ], by simp [newZ], by simp [newZ], by simp [newZ], fun x hx => (by cases hx), by simpa [newZ] using hm, by simp [newZ], .inl ⟨rfl, rfl⟩⟩
theorem diskNew_c (H : Heap) (n : Int) : ECalls Try.prog 8 #[.int .i64 n] H fun v H' => ∃ p R, v = .pointer (some ⟨p, 0, none⟩) ∧ Own H (fun _ => none) H' R ∧ Dsk R p (newZ (min (max n 0) 4096).toNat) := by
  refine ecalls_of_ewp (args := [_]) Try.func8 rfl rfl rfl (by simp [Try.ntmps8]) (by kernel_rfl) ?_
  obtain ⟨m, hm⟩ : ∃ m : Nat, min (max n 0) 4096 = (m : Int) := ⟨(min (max n 0) 4096).toNat, by omega⟩
  have hm4 : m ≤ 4096 := by omega
  rw [hm, Int.toNat_natCast]
  simp (disch := first | omega | assumption | decide | (simp <;> omega) | fail) [facts, hm]
  refine w_plan (P := Try.prog) (by simp [facts]) (opsP [0,2] (.both (opsP [1,3,4,5,6] .done) (opsP [3,1,4,5,6] .done))) ?_ ?_
  · decide +kernel
  simp (disch := first | omega | assumption | decide | (simp <;> omega) | fail) [facts, zeros_sec]
  constructor
  all_goals
    refine fresh_intro fun b1 hb1 => ?_
    simp (disch := first | omega | assumption | decide | (simp <;> omega) | fail) [facts, zeros_sec]
    refine fresh_intro fun b2 hb2 => ?_
    simp (disch := first | omega | assumption | decide | (simp <;> omega) | fail) [facts, ]
    refine fresh_intro fun b3 hb3 => ?_
    have h21 : b2 ≠ b1 := (ne_of_fresh hb2 (upd_same _ _ _)).symm
    have h32 : b3 ≠ b2 := (ne_of_fresh hb3 (upd_same _ _ _)).symm
    have h31 : b3 ≠ b1 := (ne_of_fresh hb3 (by rw [upd_ne _ _ h21.symm, upd_same])).symm
    simp (disch := first | omega | assumption | decide | (simp <;> omega) | fail) [facts, ]
    refine ⟨_, Heap.le_refl _, _, (((Own.nil (Heap.le_refl H)).add hb1 _).add hb2 _).add hb3 _, ?_⟩
    first
      | exact newDsk h31 h32 h21.symm hm4 (upd_same _ _ _) (by rw [upd_ne _ _ h31.symm, upd_ne _ _ h21.symm, upd_same]) (by rw [upd_ne _ _ h32.symm, upd_same])
      | exact newDsk h32 h31 h21 hm4 (upd_same _ _ _) (by rw [upd_ne _ _ h32.symm, upd_same]) (by rw [upd_ne _ _ h31.symm, upd_ne _ _ h21.symm, upd_same])
section
variable {H R : Heap} {p : Nat} {d : DZ}
theorem diskDown_c (hR : Heap.le R H) (h : Dsk R p d) : ECalls Try.prog 12 #[.pointer (some ⟨p, 0, none⟩)] H fun v H' => v = .bool d.down ∧ H' = H := by
  refine ecalls_of_ewp (args := [_]) Try.func12 rfl rfl rfl (by simp [Try.ntmps12]) (by kernel_rfl) ?_
  obtain ⟨k, ok, ck, rk, w, ow, cw, rw', qv, hd⟩ := h
  have hp := hR _ _ hd.row
  simp (disch := first | omega | assumption | decide | (simp <;> omega) | fail) [facts, hp]
theorem diskSectors_c (hR : Heap.le R H) (h : Dsk R p d) : ECalls Try.prog 22 #[.pointer (some ⟨p, 0, none⟩)] H fun v H' => v = .int .i64 d.kept.length ∧ H' = H := by
  refine ecalls_of_ewp (args := [_]) Try.func22 rfl rfl rfl (by simp [Try.ntmps22]) (by kernel_rfl) ?_
  obtain ⟨k, ok, ck, rk, w, ow, cw, rw', qv, hd⟩ := h
  have hp := hR _ _ hd.row
  simp (disch := first | omega | assumption | decide | (simp <;> omega) | fail) [facts, hp, hd.same]
def outZ (d : DZ) (n : Int) : Int := if d.down then 22 else if n < 0 ∨ (d.kept.length : Int) ≤ n then 20 else 0
theorem diskOut_c (hR : Heap.le R H) (h : Dsk R p d) (n : Int) : ECalls Try.prog 23 #[.pointer (some ⟨p, 0, none⟩), .int .i64 n] H fun v H' => v = .int .i64 (outZ d n) ∧ H' = H := by
  refine ecalls_of_ewp (args := [_, _]) Try.func23 rfl rfl rfl (by simp [Try.ntmps23]) (by kernel_rfl) ?_
  obtain ⟨k, ok, ck, rk, w, ow, cw, rw', qv, hd⟩ := h
  have hp := hR _ _ hd.row
  unfold outZ
  cases hdn : d.down with
  | true =>
    rw [hdn] at hp
    simp (disch := first | omega | assumption | decide | (simp <;> omega) | fail) [facts, hp]
  | false =>
    rw [hdn] at hp
    by_cases h0 : n < 0
    · simp (disch := first | omega | assumption | decide | (simp <;> omega) | fail) [facts, hp, h0, hd.same]
    · by_cases h1 : (d.kept.length : Int) ≤ n
      · simp (disch := first | omega | assumption | decide | (simp <;> omega) | fail) [facts, hp, h0, hd.same, h1]
      · simp (disch := first | omega | assumption | decide | (simp <;> omega) | fail) [facts, hp, h0, hd.same, h1]
def powZ (d : DZ) : DZ := if 0 < d.left then { d with left := d.left - 1, down := decide (d.left = 1) } else d
def powE (d : DZ) : Int := if (powZ d).down then 22 else 0
/-- The struct's own row changed. -/
theorem DskAt.setRow {k ok ck rk w ow cw rw : Nat} {qv : Value} (h : DskAt R p d k ok ck rk w ow cw rw qv) {d' : DZ} (h1 : d'.kept = d.kept) (h2 : d'.now = d.now) (h3 : d'.wait = d.wait) (h4 : d'.left < 9223372036854775808 ∧ -9223372036854775808 < d'.left) :
    DskAt (upd R p (.row true 0 [.slice (some ⟨k, ok, none⟩) d.kept.length ck, .slice (some ⟨w, ow, none⟩) d.now.length cw, qv, .int .i64 d'.left, .bool d'.down] 0)) p d' k ok ck rk w ow cw rw qv := by
  obtain ⟨kept', now', wait', left', down'⟩ := d'
  simp only at h1 h2 h3 h4
  subst h1 h2 h3
  refine ⟨upd_same _ _ _, by rw [upd_ne _ _ h.pk.symm]; exact h.kept, by rw [upd_ne _ _ h.pw.symm]; exact h.now, h.pk, h.pw, h.kw, h.same, h.kc, h.wc, h.kf, h.wf, h.inn, h.few, h4, ?_⟩
  rcases h.wait with h0 | ⟨q, o, cap, room, e1, e2, e3, e4, e5, e6, e7⟩
  · exact .inl h0
  · exact .inr ⟨q, o, cap, room, e1, by rw [upd_ne _ _ e3]; exact e2, e3, e4, e5, e6, e7⟩
theorem diskPower_c (hR : Heap.le R H) (h : Dsk R p d) : ECalls Try.prog 24 #[.pointer (some ⟨p, 0, none⟩)] H fun v H' => v = .int .i64 (powE d) ∧ ∃ R', Own H R H' R' ∧ Dsk R' p (powZ d) := by
  refine ecalls_of_ewp (args := [_]) Try.func24 rfl rfl rfl (by simp [Try.ntmps24]) (by kernel_rfl) ?_
  obtain ⟨k, ok, ck, rk, w, ow, cw, rw', qv, hd⟩ := h
  have hp := hR _ _ hd.row
  have hl := hd.left
  unfold powE powZ
  by_cases h0 : 0 < d.left
  · have hs := hd.setRow (d' := { d with left := d.left - 1, down := decide (d.left = 1) }) rfl rfl rfl (by simp only; omega)
    have ho := (Own.refl hR).set hd.row (.row true 0 [.slice (some ⟨k, ok, none⟩) d.kept.length ck, .slice (some ⟨w, ow, none⟩) d.now.length cw, qv, .int .i64 (d.left - 1), .bool (decide (d.left = 1))] 0)
    by_cases h1 : d.left = 1
    · simp only [h1, decide_true] at hs ho
      simp (disch := first | omega | assumption | decide | (simp <;> omega) | fail) [facts, hp, h0, h1, upd_upd]
      exact ⟨_, Heap.le_refl _, _, ho, _, _, _, _, _, _, _, _, _, hs⟩
    · have h2 : ¬ d.left - 1 = 0 := by omega
      simp only [h1, decide_false] at hs ho
      simp (disch := first | omega | assumption | decide | (simp <;> omega) | fail) [facts, hp, h0, h1, h2, upd_upd]
      exact ⟨_, Heap.le_refl _, _, ho, _, _, _, _, _, _, _, _, _, hs⟩
  · cases hdn : d.down with
    | true =>
      rw [hdn] at hp
      simp (disch := first | omega | assumption | decide | (simp <;> omega) | fail) [facts, hp, h0, hdn]
      exact ⟨_, Heap.le_refl _, R, Own.refl hR, _, _, _, _, _, _, _, _, _, hd⟩
    | false =>
      rw [hdn] at hp
      simp (disch := first | omega | assumption | decide | (simp <;> omega) | fail) [facts, hp, h0, hdn]
      exact ⟨_, Heap.le_refl _, R, Own.refl hR, _, _, _, _, _, _, _, _, _, hd⟩
def cutZ (d : DZ) (n : Int) : DZ := { d with left := max n 0, down := d.down || decide (n < 1) }
theorem diskCut_c (hR : Heap.le R H) (h : Dsk R p d) (n : Int) (hn : n < 9223372036854775808) : ECalls Try.prog 15 #[.pointer (some ⟨p, 0, none⟩), .int .i64 n] H fun _ H' => ∃ R', Own H R H' R' ∧ Dsk R' p (cutZ d n) := by
  refine ecalls_of_ewp (args := [_, _]) Try.func15 rfl rfl rfl (by simp [Try.ntmps15]) (by kernel_rfl) ?_
  obtain ⟨k, ok, ck, rk, w, ow, cw, rw', qv, hd⟩ := h
  have hp := hR _ _ hd.row
  have hs := hd.setRow (d' := cutZ d n) rfl rfl rfl (by simp only [cutZ]; omega)
  have ho := (Own.refl hR).set hd.row (.row true 0 [.slice (some ⟨k, ok, none⟩) d.kept.length ck, .slice (some ⟨w, ow, none⟩) d.now.length cw, qv, .int .i64 (cutZ d n).left, .bool (cutZ d n).down] 0)
  simp only [cutZ] at hs ho
  unfold cutZ
  by_cases h1 : n < 1
  · simp only [h1, decide_true, Bool.or_true] at hs ho
    simp (disch := first | omega | assumption | decide | (simp <;> omega) | fail) [facts, hp, h1, upd_upd]
    exact ⟨_, Heap.le_refl _, _, ho, _, _, _, _, _, _, _, _, _, hs⟩
  · simp only [h1, decide_false, Bool.or_false] at hs ho
    simp (disch := first | omega | assumption | decide | (simp <;> omega) | fail) [facts, hp, h1, upd_upd]
    exact ⟨_, Heap.le_refl _, _, ho, _, _, _, _, _, _, _, _, _, hs⟩
end
end Go.Proofs.Ytobkfpohdknggaa.GL
