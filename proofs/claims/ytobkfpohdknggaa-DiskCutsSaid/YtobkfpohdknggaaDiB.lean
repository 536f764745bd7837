/- Layer 3: a disk: read, written. -/
import Derived.Test.YtobkfpohdknggaaDiA
namespace Go.Proofs.Ytobkfpohdknggaa.GL
open Go Go.RowKit
set_option maxRecDepth 10000
set_option pp.deepTerms.threshold 8
set_option pp.maxSteps 3000
set_option linter.unusedSimpArgs false
set_option linter.unusedVariables false

/-- slices.Clone of bytes. -/
theorem cloneB_c (a : Option Addr) (n c : Nat) (bs : List UInt8) (H : Heap) (h : ByA H a n bs) (hn : n ≤ 1099511627776) :
    ECalls Try.prog 25 #[.slice a n c] H fun v H' => Heap.le H H' ∧ Out H H' v 1 n (bs.map u8V) := by
  refine ecalls_of_ewp (args := [_]) Try.func25 rfl rfl rfl (by simp [Try.ntmps25]) (by kernel_rfl) ?_
  have hlen : bs.length = n := h.len
  cases a with
  | none =>
    have hn0 : n = 0 := by
      rcases h with h | ⟨h0, _⟩
      · rcases Nat.eq_zero_or_pos n with h0 | h0
        · exact h0
        · have := h.there h0; cases this
      · exact h0
    subst hn0
    have hb : bs = [] := List.length_eq_zero_iff.1 hlen
    subst hb
    simp (disch := first | omega | assumption | decide | (simp <;> omega) | fail) [facts, ]
    exact ⟨_, Heap.le_refl _, Heap.le_refl _, .inl ⟨rfl, rfl, rfl⟩⟩
  | some a =>
    simp (disch := first | omega | assumption | decide | (simp <;> omega) | fail) [facts, ]
    refine fresh_intro fun b hb => ?_
    simp (disch := first | omega | assumption | decide | (simp <;> omega) | fail) [facts, ]
    refine app_own (e := 5) (s := 1) (nbs := 1) (z := .int .u8 0) (b := b) (o := 0) (cap := 0) (room := 0) (m := 0) (n := n) (cs := []) (ys := bs.map u8V) (by simp [facts]) (by simp [facts]) (by simp [facts]) (by simp [facts]) rfl (by decide) ⟨rfl, upd_same _ _ _, rfl, Nat.le_refl _, by omega⟩
      (src_by (e1 := 5) (z := .int .u8 0) (by simp [facts]) (by simp [facts]) (by simp [facts]) (h.le (le_upd _ hb))) (by simp [hlen]) (by simp [List.all_eq_true, u8V, Value.oneCell']) (by omega) ?_
    intro b' o' cap' room' H' hb' hH' hown
    rw [dele_fresh hb] at hb' hH'
    have hle : Heap.le H H' := by rw [hH']; exact le_upd _ hb'
    simp (disch := first | omega | assumption | decide | (simp <;> omega) | fail) [facts, ]
    exact ⟨_, Heap.le_refl _, hle, .inr ⟨b', o', cap', room', hb', by simpa using hown⟩⟩

theorem ne_of_none {H : Heap} {b c : Nat} {o : GObj} (hb : H b = none) (hc : H c = some o) : b ≠ c := fun e => by subst e; rw [hb] at hc; cases hc
section
variable {H R : Heap} {p : Nat} {d : DZ}
theorem DskAt.nowSl {k ok ck rk w ow cw rw : Nat} {qv : Value} (h : DskAt R p d k ok ck rk w ow cw rw qv) (hR : Heap.le R H) : SlA H (some ⟨w, ow, none⟩) d.now.length 64 (rowsC Sec.cells d.now) :=
  SlA.row (hR _ _ h.now) (Nat.le_refl _) (rowsC_len sec64 _) (by rw [rowsC_len sec64]; omega) (by rw [Nat.sub_self, List.drop_zero, ← rowsC_len sec64 d.now, List.take_length])
theorem DskAt.keptSl {k ok ck rk w ow cw rw : Nat} {qv : Value} (h : DskAt R p d k ok ck rk w ow cw rw qv) (hR : Heap.le R H) : SlA H (some ⟨k, ok, none⟩) d.kept.length 64 (rowsC Sec.cells d.kept) :=
  SlA.row (hR _ _ h.kept) (Nat.le_refl _) (rowsC_len sec64 _) (by rw [rowsC_len sec64]; omega) (by rw [Nat.sub_self, List.drop_zero, ← rowsC_len sec64 d.kept, List.take_length])
/-- A sector's bytes, in its place. -/
theorem sec_sl {b o n j : Nat} {xs : List Sec} {s : Sec} (h : SlA H (some ⟨b, o, none⟩) n 64 (rowsC Sec.cells xs)) (hs : xs[j]? = some s) : SlA H (some ⟨b, o + j * 64, none⟩) 64 1 (s.b.map u8V) := by
  have hn := h.els sec64 (by decide)
  have hj : j < xs.length := (List.getElem?_eq_some_iff.1 hs).1
  have he := rowsC_at sec64 hs
  have hl : j * 64 + 64 ≤ n * 64 := by omega
  refine ⟨rfl, fun _ => rfl, by simp [s.len], fun i hi => ?_, fun i r hr hi => ?_⟩
  · have := h.get (j * 64 + i) (by omega)
    rw [at1_lit] at this ⊢
    rw [Nat.add_assoc, this]
    show _ = s.cells[i]?
    rw [← he, List.getElem?_take_of_lt (by omega), List.getElem?_drop]
  · have := h.getN (j * 64 + i) r hr (by omega)
    rw [atN_lit] at this ⊢
    rw [Nat.add_assoc, this]
    show _ = some ((s.cells.drop i).take r)
    rw [← he, List.drop_take, List.take_take, List.drop_drop, Nat.min_eq_left (by omega)]
theorem diskRead_out (hR : Heap.le R H) (h : Dsk R p d) (n : Int) (ho : outZ d n ≠ 0) : ECalls Try.prog 11 #[.pointer (some ⟨p, 0, none⟩), .int .i64 n] H fun v H' => v = .tuple #[.slice none 0 0, .int .i64 (outZ d n)] ∧ H' = H := by
  refine ecalls_of_ewp (args := [_, _]) Try.func11 rfl rfl rfl (by simp [Try.ntmps11]) (by kernel_rfl) ?_
  have co := diskOut_c hR h n
  simp (disch := first | omega | assumption | decide | (simp <;> omega) | fail) [facts, ]
  refine co.mono ?_
  rintro v H2 ⟨rfl, rfl⟩
  simp (disch := first | omega | assumption | decide | (simp <;> omega) | fail) [facts, ho]
theorem diskRead_in (hR : Heap.le R H) (h : Dsk R p d) (j : Nat) (hdn : d.down = false) {s : Sec} (hs : d.now[j]? = some s) : ECalls Try.prog 11 #[.pointer (some ⟨p, 0, none⟩), .int .i64 j] H fun v H' => Heap.le H H' ∧ ∃ a c, v = .tuple #[.slice a 64 c, .int .i64 0] ∧ Out H H' (.slice a 64 c) 1 64 s.cells := by
  refine ecalls_of_ewp (args := [_, _]) Try.func11 rfl rfl rfl (by simp [Try.ntmps11]) (by kernel_rfl) ?_
  have co := diskOut_c hR h (j : Int)
  obtain ⟨k, ok, ck, rk, w, ow, cw, rw', qv, hd⟩ := h
  have hp := hR _ _ hd.row
  have hj : j < d.now.length := (List.getElem?_eq_some_iff.1 hs).1
  have hsame := hd.same
  have hj1 : ¬ (d.kept.length : Int) ≤ (j : Int) := by omega
  have hj2 : ¬ (j : Int) < 0 := by omega
  have hj3 : (j : Int) < (d.now.length : Int) := by omega
  have h0 : outZ d j = 0 := by simp [outZ, hdn]; omega
  rw [h0] at co
  have hsl := sec_sl (hd.nowSl hR) hs
  simp (disch := first | omega | assumption | decide | (simp <;> omega) | fail) [facts, ]
  refine co.mono ?_
  rintro v H2 ⟨rfl, rfl⟩
  simp (disch := first | omega | assumption | decide | (simp <;> omega) | fail) [facts, hp, hj3]
  refine (cloneB_c _ 64 64 s.b _ (.inl hsl) (by decide)).mono ?_
  rintro v H3 ⟨hle, hout⟩
  obtain ⟨a, c, rfl, hsl3⟩ := hout.sl
  simp (disch := first | omega | assumption | decide | (simp <;> omega) | fail) [facts, ]
  exact ⟨_, Heap.le_refl _, hle, _, _, ⟨rfl, rfl⟩, hout⟩

/-- The writes that wait, done. -/
def applyW (k : List Sec) (ws : List Wr) : List Sec := ws.foldl (fun k w => k.set w.n w.s) k
theorem applyW_len (ws : List Wr) : ∀ k : List Sec, (applyW k ws).length = k.length := by
  induction ws with
  | nil => intro k; rfl
  | cons w ws ih => intro k; show (applyW (k.set w.n w.s) ws).length = _; rw [ih, List.length_set]
theorem applyW_app (k : List Sec) (ws vs : List Wr) : applyW k (ws ++ vs) = applyW (applyW k ws) vs := by simp [applyW]
def writeZ (d : DZ) (j : Nat) (s : Sec) : DZ := { powZ d with now := d.now.set j s, wait := d.wait ++ [⟨j, s⟩] }
theorem diskWrite_out (hR : Heap.le R H) (h : Dsk R p d) (n : Int) (x : Value) (ho : outZ d n ≠ 0) : ECalls Try.prog 9 #[.pointer (some ⟨p, 0, none⟩), .int .i64 n, x] H fun v H' => v = .int .i64 (outZ d n) ∧ H' = H := by
  refine ecalls_of_ewp (args := [_, _, _]) Try.func9 rfl rfl rfl (by simp [Try.ntmps9]) (by kernel_rfl) ?_
  have co := diskOut_c hR h n
  simp (disch := first | omega | assumption | decide | (simp <;> omega) | fail) [facts, ]
  refine co.mono ?_
  rintro v H2 ⟨rfl, rfl⟩
  simp (disch := first | omega | assumption | decide | (simp <;> omega) | fail) [facts, ho]
theorem diskWrite_down (hR : Heap.le R H) (h : Dsk R p d) (n : Int) (x : Value) (ho : outZ d n = 0) (hpw : (powZ d).down = true) : ECalls Try.prog 9 #[.pointer (some ⟨p, 0, none⟩), .int .i64 n, x] H fun v H' => v = .int .i64 22 ∧ ∃ R', Own H R H' R' ∧ Dsk R' p (powZ d) := by
  refine ecalls_of_ewp (args := [_, _, _]) Try.func9 rfl rfl rfl (by simp [Try.ntmps9]) (by kernel_rfl) ?_
  have co := diskOut_c hR h n
  have cp := diskPower_c hR h
  have he : powE d = 22 := by simp [powE, hpw]
  rw [ho] at co
  rw [he] at cp
  simp (disch := first | omega | assumption | decide | (simp <;> omega) | fail) [facts, ]
  refine co.mono ?_
  rintro v H2 ⟨rfl, rfl⟩
  simp (disch := first | omega | assumption | decide | (simp <;> omega) | fail) [facts, ]
  refine cp.mono ?_
  rintro v H3 ⟨rfl, R', hown, hd'⟩
  simp (disch := first | omega | assumption | decide | (simp <;> omega) | fail) [facts, ]
  exact ⟨_, Heap.le_refl _, R', hown, hd'⟩
theorem powZ_same (d : DZ) : (powZ d).kept = d.kept ∧ (powZ d).now = d.now ∧ (powZ d).wait = d.wait := by
  unfold powZ; split <;> exact ⟨rfl, rfl, rfl⟩
/-- One more waits. -/
theorem WaitAt.app {P : Program} {t e : TypeId} {z : Value} (hu : und P t = .slice e) (hs : sz P e = some 65) (hn : nb P e = some 72) (hz : zeroV P e = some z) (hzs : (cellsV z).length = 65)
    {H0 R0 G R : Heap} {ws : List Wr} {qv : Value} {p k w : Nat} (h : WaitAt R qv ws p k w) (own : Own H0 R0 G R) (x : Wr) (hlen : ws.length ≤ 1000000) {b : Nat} (hb : G b = none) {op ok ow : GObj} (hp : R p = some op) (hk : R k = some ok) (hw : R w = some ow) {K : Kont}
    (hK : ∀ a' c' H' R', Own H0 R0 H' R' → WaitAt R' (.slice a' (ws.length + 1) c') (ws ++ [x]) p k w → R' p = some op → R' k = some ok → R' w = some ow → K (.slice a' (ws.length + 1) c') H') :
    eApp P t t qv (.slice (some ⟨b, 0, none⟩) 1 1) (upd G b (.row true 0 x.cells 0)) K := by
  have own1 := own.grow (le_upd (.row true 0 x.cells 0) hb)
  have hsrc := srcOne (P := P) (H := G) (e := e) (t1 := t) (e1 := e) (b := b) (s := 65) (z := z) (cs := x.cells) hu hs hz (wr65 x)
  rcases h with ⟨rfl, rfl⟩ | ⟨q, o, cap, room, rfl, hq, h1, h2, h3, h4, h5⟩
  · refine app_nil hu hs hn hz hzs (by decide) hsrc (wr65 x) (wr1 x) (by decide) (fun h0 => absurd h0 (by decide)) (fun b' cap room hb' _ hown => ?_)
    have n1 : p ≠ b' := fun e' => by subst e'; rw [own1.le _ _ hp] at hb'; cases hb'
    have n2 : k ≠ b' := fun e' => by subst e'; rw [own1.le _ _ hk] at hb'; cases hb'
    have n3 : w ≠ b' := fun e' => by subst e'; rw [own1.le _ _ hw] at hb'; cases hb'
    exact hK _ _ _ _ (own1.add hb' _) (.inr ⟨b', 0, cap, room, rfl, by rw [upd_same]; simp [rowsC], n1.symm, n2.symm, n3.symm, hown.capOk, by simpa using hown.fits⟩) (by rw [upd_ne _ _ n1, hp]) (by rw [upd_ne _ _ n2, hk]) (by rw [upd_ne _ _ n3, hw])
  · refine app_own hu hs hn hz hzs (by decide) (m := ws.length) (cs := rowsC Wr.cells ws) (b := q) (o := o) (cap := cap) (room := room) ⟨rfl, own1.le _ _ hq, rowsC_len wr65 _, h4, h5⟩ hsrc (wr65 x) (wr1 x) (by omega) fun b' o' cap' room' H' hb' hH' hown => ?_
    subst hH'
    have own2 := own1.drop hq
    have hp2 : dele R q p = some op := by rw [dele_ne _ h1.symm]; exact hp
    have hk2 : dele R q k = some ok := by rw [dele_ne _ h2.symm]; exact hk
    have hw2 : dele R q w = some ow := by rw [dele_ne _ h3.symm]; exact hw
    have n1 : p ≠ b' := fun e' => by subst e'; rw [own2.le _ _ hp2] at hb'; cases hb'
    have n2 : k ≠ b' := fun e' => by subst e'; rw [own2.le _ _ hk2] at hb'; cases hb'
    have n3 : w ≠ b' := fun e' => by subst e'; rw [own2.le _ _ hw2] at hb'; cases hb'
    exact hK _ _ _ _ (own2.add hb' _) (.inr ⟨b', o', cap', room', by simp, by rw [upd_same, rowsC_app, rowsC_single], n1.symm, n2.symm, n3.symm, by simpa using hown.capOk, by simpa using hown.fits⟩) (by rw [upd_ne _ _ n1, hp2]) (by rw [upd_ne _ _ n2, hk2]) (by rw [upd_ne _ _ n3, hw2])
theorem wr_row (j : Nat) (s : Sec) : splice (zeros (Value.int .i64 0 :: rep 64 (.int .u8 0)) 1) 0 (.int .i64 (j : Int) :: (s.cells ++ List.drop 64 (rep 64 (.int .u8 0)))) = (⟨j, s⟩ : Wr).cells := by
  rw [List.drop_of_length_le (by simp), List.append_nil]
  exact splice_all (by simp [zeros])
set_option maxHeartbeats 1000000 in
theorem diskWrite_in {F : Heap} (hR : Heap.le R H) (h : Dsk R p d) (hF : Heap.le F H) (hoff : Off F R) (j : Nat) {a : Option Addr} {n c : Nat} {bs : List UInt8} (hb : ByA F a n bs) (hn : n ≤ 1000000) (hj : j < d.kept.length) (hdn : d.down = false) (hpw : (powZ d).down = false) (hw : d.wait.length ≤ 1000000) :
    ECalls Try.prog 9 #[.pointer (some ⟨p, 0, none⟩), .int .i64 j, .slice a n c] H fun v H' => v = .int .i64 0 ∧ ∃ R', Own H R H' R' ∧ Dsk R' p (writeZ d j (secOf bs)) := by
  refine ecalls_of_ewp (args := [_, _, _]) Try.func9 rfl rfl rfl (by simp [Try.ntmps9]) (by kernel_rfl) ?_
  have ho : outZ d j = 0 := by simp [outZ, hdn]; omega
  have co := diskOut_c hR h (j : Int)
  have cp := diskPower_c hR h
  have he : powE d = 0 := by simp [powE, hpw]
  have hlen := hb.len
  subst hlen
  rw [ho] at co
  rw [he] at cp
  simp (disch := first | omega | assumption | decide | (simp <;> omega) | fail) [facts, ]
  refine co.mono ?_
  rintro v H2 ⟨rfl, rfl⟩
  simp (disch := first | omega | assumption | decide | (simp <;> omega) | fail) [facts, ]
  refine cp.mono ?_
  rintro v H3 ⟨rfl, R3, hown, hd3⟩
  obtain ⟨s1, s2, s3⟩ := powZ_same d
  obtain ⟨hF3, hoff3⟩ := hown.frame hF hoff
  simp (disch := first | omega | assumption | decide | (simp <;> omega) | fail) [facts, ]
  refine fresh_intro fun b hb9 => ?_
  simp (disch := first | omega | assumption | decide | (simp <;> omega) | fail) [facts, ]
  refine copy_own (e := 5) (s := 1) (n := bs.length) (ys := bs.map u8V) (by simp [facts]) (by simp [facts]) (src_by (e1 := 5) (z := .int .u8 0) (by simp [facts]) (by simp [facts]) (by simp [facts]) (hb.le (Heap.le_trans hF3 (le_upd _ hb9)))) (by simp [facts]) (by intro k z e; cases e) (by simp) (all_u8 bs) (upd_same _ _ _) (Nat.le_refl _) (by simp) ?_
  rw [Nat.sub_self, Nat.mul_one, sec_copy, upd_upd]
  have own4 := hown.grow (le_upd (.row true 0 (secOf bs).cells 0) hb9)
  have l9 := upd_same H3 b (.row true 0 (secOf bs).cells 0)
  generalize upd H3 b (.row true 0 (secOf bs).cells 0) = G at *
  obtain ⟨k, ok, ck, rk, w, ow, cw, rw', qv, hd⟩ := hd3
  have hp := own4.le _ _ hd.row
  have hwr := own4.le _ _ hd.now
  have hjn : (j : Int) < ((powZ d).now.length : Int) := by rw [hd.same, s1]; omega
  have hlw : (rowsC Sec.cells (powZ d).now).length = (powZ d).now.length * 64 := rowsC_len sec64 _
  have hj64 : j * 64 + 64 ≤ (powZ d).now.length * 64 := by omega
  have hl9 := rdNU_all (own := true) (room := 0) (sec64 (secOf bs))
  simp (disch := first | omega | assumption | decide | (simp <;> omega) | fail) [facts, ]
  refine w_plan (P := Try.prog) (by simp [facts]) (opsP [0,1,2,3,4,5,6,7] .done) ?_ ?_
  · decide +kernel
  simp (disch := first | omega | assumption | decide | (simp <;> omega) | fail) [facts, hp, l9, hl9, hjn, hwr]
  rw [rowsC_set sec64 _ _ _ (by rw [s2] at hjn ⊢; omega)]
  have own5 := own4.set hd.now (.row true ow (rowsC Sec.cells ((powZ d).now.set j (secOf bs))) rw')
  have bw : b ≠ w := ne_of_none hb9 (hown.le _ _ hd.now)
  have bp : b ≠ p := ne_of_none hb9 (hown.le _ _ hd.row)
  have m9 : upd G w (.row true ow (rowsC Sec.cells ((powZ d).now.set j (secOf bs))) rw') b = some (.row true 0 (secOf bs).cells 0) := by rw [upd_ne _ _ bw]; exact l9
  have hp5 : upd R3 w (.row true ow (rowsC Sec.cells ((powZ d).now.set j (secOf bs))) rw') p = _ := (upd_ne _ _ hd.pw).trans hd.row
  have hk5 : upd R3 w (.row true ow (rowsC Sec.cells ((powZ d).now.set j (secOf bs))) rw') k = _ := (upd_ne _ _ hd.kw).trans hd.kept
  have hw5 := upd_same R3 w (.row true ow (rowsC Sec.cells ((powZ d).now.set j (secOf bs))) rw')
  have hwait : WaitAt (upd R3 w (.row true ow (rowsC Sec.cells ((powZ d).now.set j (secOf bs))) rw')) qv d.wait p k w := by
    rcases hd.wait with ⟨e1, e2⟩ | ⟨q, o, cap, room, e1, e2, e3, e4, e5, e6, e7⟩
    · exact .inl ⟨e1, s3 ▸ e2⟩
    · exact .inr ⟨q, o, cap, room, s3 ▸ e1, by rw [upd_ne _ _ e5, ← s3]; exact e2, e3, e4, e5, s3 ▸ e6, s3 ▸ e7⟩
  generalize upd G w (.row true ow (rowsC Sec.cells ((powZ d).now.set j (secOf bs))) rw') = G5 at *
  generalize upd R3 w (.row true ow (rowsC Sec.cells ((powZ d).now.set j (secOf bs))) rw') = R5 at *
  have hp6 := own5.le _ _ hp5
  refine w_plan (P := Try.prog) (by simp [facts]) (opsP [0,1,2,3,5] (.both (opsP [4,6,7,8,9,10,11,12] .done) (opsP [6,7] (.both (opsP [4,8,9,10,11,12] .done) (opsP [8,4,9,10,11,12] .done))))) ?_ ?_
  · decide +kernel
  simp (disch := first | omega | assumption | decide | (simp <;> omega) | fail) [facts, hp6, m9, hl9]
  repeat' apply And.intro
  all_goals
    refine fresh_intro fun b10 hb10 => ?_
    rw [wr_row]
    have p10 : p ≠ b10 := ne_of_fresh hb10 hp6
    have hp7 := upd_other (o := .row true 0 (Wr.cells ⟨j, secOf bs⟩) 0) hb10 hp6
    simp (disch := first | omega | assumption | decide | (simp <;> omega) | fail) [facts, hp7]
    refine hwait.app (P := Try.prog) (e := 60) (z := .agg (([.int .i64 0] : List Value) ++ rep 64 (.int .u8 0)).toArray) (by simp [facts]) (by simp [facts]) (by simp [facts]) (by simp [facts]) (by simp) own5 ⟨j, secOf bs⟩ hw hb10 hp5 hk5 hw5 ?_
    intro a' c' H' R' own' hwt hp' hk' hw'
    have hpH := own'.le _ _ hp'
    simp (disch := first | omega | assumption | decide | (simp <;> omega) | fail) [facts, hpH]
    refine ⟨_, Heap.le_refl _, _, own'.set hp' _, k, ok, ck, rk, w, ow, cw, rw', .slice a' (d.wait.length + 1) c', ?_⟩
    refine ⟨?_, ?_, ?_, hd.pk, hd.pw, hd.kw, ?_, ?_, ?_, ?_, ?_, ?_, ?_, ?_, ?_⟩
    · simp [writeZ, s2]
    · rw [upd_ne _ _ hd.pk.symm, hk']; rfl
    · rw [upd_ne _ _ hd.pw.symm, hw']; rw [s2]; rfl
    · simp [writeZ, s1]; have := hd.same; rw [s1, s2] at this; exact this
    · exact hd.kc
    · have := hd.wc; rw [s2] at this; simpa [writeZ] using this
    · exact hd.kf
    · have := hd.wf; rw [s2] at this; simpa [writeZ] using this
    · intro x hx
      rcases List.mem_append.1 hx with hx | hx
      · rw [← s3] at hx; exact hd.inn x hx
      · rw [List.mem_singleton] at hx; subst hx
        show j < (powZ d).kept.length
        rw [s1]; exact hj
    · exact hd.few
    · exact hd.left
    · rcases hwt with ⟨e1, e2⟩ | ⟨q, o, cap, room, e1, e2, e3, e4, e5, e6, e7⟩
      · simp at e2
      · exact .inr ⟨q, o, cap, room, by simpa [writeZ] using e1, by rw [upd_ne _ _ e3]; exact e2, e3, e4, e5, e6, e7⟩
end
end Go.Proofs.Ytobkfpohdknggaa.GL
