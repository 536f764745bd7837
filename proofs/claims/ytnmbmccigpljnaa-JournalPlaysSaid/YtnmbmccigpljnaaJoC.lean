/- Layer 5: a half scanned. -/
import Derived.Test.YtnmbmccigpljnaaJoB
namespace Go.Proofs.Ytnmbmccigpljnaa.GL
open Go Go.RowKit
set_option maxRecDepth 10000
set_option pp.deepTerms.threshold 8
set_option pp.maxSteps 3000
set_option linter.unusedSimpArgs false
set_option linter.unusedVariables false

theorem Sec.pc_small (s : Sec) : s.pc.n < 4294967296 ∧ s.pc.pl < 65536 ∧ s.pc.ct < 65536 ∧ s.pc.b.length ≤ 64 := by
  have q1 := s.hn_lt
  have q2 := s.pl_lt
  have q3 := s.ct_lt
  unfold Sec.pc
  split
  · rename_i hok
    have := hok.2.2
    refine ⟨q1, q2, q3, ?_⟩
    simp [s.len]
    omega
  · simp
/-- What a scan knows: it is done; the last piece; its batch so far; the first batch's number; sectors used; what is carried. -/
structure Sst where
  done : Bool
  prev : Pc
  whole : List UInt8
  first : Nat
  used : Nat
  b : List UInt8
def st0 : Sst := ⟨false, ⟨0, 0, 0, []⟩, [], 0, 0, []⟩
def begZ (i : Nat) (q x : Pc) : Bool := if i = 0 then decide (x.pl = 0) else decide (x.pl = 0) && decide (q.n < x.n) && decide (q.pl + 1 = q.ct)
def goZ (q x : Pc) : Bool := decide (x.n = q.n) && decide (x.pl = q.pl + 1) && decide (x.ct = q.ct)
def badZ (i : Nat) (z : Sst) (s : Sec) : Bool := z.done || !decide s.ok || decide (s.pc.ct ≤ s.pc.pl) || (!begZ i z.prev s.pc && !goZ z.prev s.pc)
def scanStep (i : Nat) (z : Sst) (s : Sec) : Sst :=
  if badZ i z s then { z with done := true }
  else
    let w := (if begZ i z.prev s.pc then [] else z.whole) ++ s.pc.b
    if s.pc.pl + 1 = s.pc.ct then ⟨false, s.pc, w, if z.first = 0 then s.pc.n else z.first, i + 1, z.b ++ w⟩
    else ⟨false, s.pc, w, z.first, z.used, z.b⟩
def scanTo (l : List Sec) : Nat → Sst
  | 0 => st0
  | k + 1 => match l[k]? with
    | some s => scanStep k (scanTo l k) s
    | none => scanTo l k
def lastTo (l : List Sec) (x : Nat) : Nat → Nat
  | 0 => x
  | k + 1 => match l[k]? with
    | some s => max (lastTo l x k) (max s.hn s.tn)
    | none => lastTo l x k
theorem scanTo_succ {l : List Sec} {k : Nat} {s : Sec} (h : l[k]? = some s) : scanTo l (k + 1) = scanStep k (scanTo l k) s := by simp [scanTo, h]
theorem lastTo_succ {l : List Sec} {x k : Nat} {s : Sec} (h : l[k]? = some s) : lastTo l x (k + 1) = max (lastTo l x k) (max s.hn s.tn) := by simp [lastTo, h]
theorem lastTo_lt (l : List Sec) {x : Nat} (hx : x < 4294967296) : ∀ k, lastTo l x k < 4294967296
  | 0 => hx
  | k + 1 => by
    have ih := lastTo_lt l hx k
    unfold lastTo
    split
    · rename_i s _
      have := s.hn_lt
      have := s.tn_lt
      omega
    · exact ih
theorem scanTo_small (l : List Sec) : ∀ k, (scanTo l k).whole.length ≤ 64 * k ∧ (scanTo l k).b.length ≤ 64 * k * k ∧ (scanTo l k).used ≤ k ∧ (scanTo l k).first < 4294967296 ∧ (scanTo l k).prev.n < 4294967296 ∧ (scanTo l k).prev.pl < 65536 ∧ (scanTo l k).prev.ct < 65536
  | 0 => by simp [scanTo, st0]
  | k + 1 => by
    obtain ⟨h1, h2, h3, h4, h5, h6, h7⟩ := scanTo_small l k
    have hk : 64 * (k + 1) * (k + 1) = 64 * k * k + 128 * k + 64 := by
      have e1 : 64 * (k + 1) = 64 * k + 64 := by omega
      rw [e1, Nat.add_mul, Nat.mul_add, Nat.mul_add]; omega
    unfold scanTo
    split
    · rename_i s _
      have q1 := s.hn_lt
      have q2 := s.pl_lt
      have q3 := s.ct_lt
      have hpc : s.pc.n < 4294967296 ∧ s.pc.pl < 65536 ∧ s.pc.ct < 65536 ∧ s.pc.b.length ≤ 64 := by
        unfold Sec.pc
        split
        · rename_i hok
          have := hok.2.2
          refine ⟨q1, q2, q3, ?_⟩
          simp [s.len]
          omega
        · simp
      unfold scanStep
      split
      · exact ⟨by simp only; omega, by simp only; omega, by simp only; omega, h4, h5, h6, h7⟩
      · simp only
        have hw : ((if begZ k (scanTo l k).prev s.pc then [] else (scanTo l k).whole) ++ s.pc.b).length ≤ 64 * (k + 1) := by
          rw [List.length_append]
          split
          · simp; omega
          · omega
        generalize (if begZ k (scanTo l k).prev s.pc then [] else (scanTo l k).whole) ++ s.pc.b = w at *
        split
        · refine ⟨hw, ?_, by simp only; omega, ?_, hpc.1, hpc.2.1, hpc.2.2.1⟩
          · simp only [List.length_append]; omega
          · simp only
            split
            · exact hpc.1
            · exact h4
        · exact ⟨hw, by simp only; omega, by simp only; omega, h4, hpc.1, hpc.2.1, hpc.2.2.1⟩
    · exact ⟨by omega, by omega, by omega, h4, h5, h6, h7⟩
/-- Less of what stays. -/
theorem TwoO.less {F F0 A B H : Heap} (t : TwoO F A B H) (hl : Heap.le F0 F) : TwoO F0 A B H :=
  ⟨Heap.le_trans hl t.fle, t.ale, t.ble, fun b o h => t.fa b o (hl _ _ h), fun b o h => t.fb b o (hl _ _ h), t.ab⟩
/-- All that is not the object's. -/
def rest (H R : Heap) : Heap := fun b => if R b = none then H b else none
theorem rest_le (H R : Heap) : Heap.le (rest H R) H := fun b o h => by
  unfold rest at h
  split at h
  · exact h
  · cases h
theorem rest_off (H R : Heap) : Off (rest H R) R := fun b o h => by
  unfold rest at h
  split at h
  · assumption
  · cases h
theorem rest_of {D H R : Heap} (hD : Heap.le D H) (ho : Off D R) : Heap.le D (rest H R) := fun b o h => by
  unfold rest
  rw [if_pos (ho b o h)]
  exact hD b o h
theorem own_of_two {H R F A B G : Heap} (t : TwoO F A B G) (hF : Heap.le (rest H R) F) : Own H R G A :=
  ⟨fun b o h1 h2 => by
    have hr : rest H R b = some o := by unfold rest; rw [if_pos h1]; exact h2
    exact ⟨t.fa b o (hF _ _ hr), t.fle b o (hF _ _ hr)⟩, t.ale⟩
/-- The scan's own memory. -/
structure ScB (B : Heap) (b6 b8 : Nat) (vw vh : Value) (z : Sst) (pa : Option Addr) (pm pc : Nat) : Prop where
  r6 : B b6 = some (.row true 0 [.int .u32 z.first, .int .i64 z.used, vh] 0)
  r8 : B b8 = some (.row true 0 [.int .u32 z.prev.n, .int .i64 z.prev.pl, .int .i64 z.prev.ct, .slice pa pm pc] 0)
  n68 : b6 ≠ b8
  lw : LB B vw z.whole
  lh : LB B vh z.b
  w6 : blkV vw ≠ some b6
  w8 : blkV vw ≠ some b8
  h6 : blkV vh ≠ some b6
  h8 : blkV vh ≠ some b8
  wh : ∀ i, blkV vw = some i → blkV vh ≠ some i
def scE (p at0 b4 b6 b8 b11 half k : Nat) (vw : Value) (dn ok : Bool) (G : Heap) (st : St) : Prop :=
  st.env 0 = .pointer (some ⟨p, 0, none⟩) ∧ st.env 1 = .int .i64 at0 ∧ st.env 4 = .pointer (some ⟨b4, 0, none⟩) ∧ st.env 5 = .int .i64 0 ∧ st.env 6 = .pointer (some ⟨b6, 0, none⟩) ∧ st.env 7 = vw ∧ st.env 8 = .pointer (some ⟨b8, 0, none⟩) ∧ st.env 9 = .bool dn ∧ st.env 20 = .int .i64 half ∧ st.env 21 = .int .i64 k ∧ st.env 10 = .int .i64 k ∧ st.env 11 = .pointer (some ⟨b11, 0, none⟩) ∧ st.env 12 = .bool (ok) ∧ st.env 13 = .int .i64 0 ∧ st.heap = G
def scInv (F RL : Heap) (pd p half at0 base used last : Nat) (lv : Value) (l : List Sec) (b4 b6 b8 : Nat) (st : St) : Prop :=
  ∃ (k : Nat) (z : Sst) (B : Heap) (vw vh : Value) (pa : Option Addr) (pm pc : Nat), k ≤ half ∧ z = scanTo l k ∧ st.env 0 = .pointer (some ⟨p, 0, none⟩) ∧ st.env 1 = .int .i64 at0 ∧ st.env 4 = .pointer (some ⟨b4, 0, none⟩) ∧ st.env 5 = .int .i64 0 ∧ st.env 6 = .pointer (some ⟨b6, 0, none⟩) ∧ st.env 7 = vw ∧ st.env 8 = .pointer (some ⟨b8, 0, none⟩) ∧ st.env 9 = .bool z.done ∧ st.env 20 = .int .i64 half ∧ st.env 21 = .int .i64 k ∧
    TwoO F (upd RL p (.row true 0 (lgRow pd half base used (lastTo l last k) lv) 0)) B st.heap ∧ ScB B b6 b8 vw vh z pa pm pc
section
variable {F RL H : Heap} {pd p half base used last : Nat} {lv : Value} {l : List Sec} {d : DZ}
set_option maxHeartbeats 4000000 in
theorem jscan_c {RD : Heap} (hD : Heap.le RD H) (hd : Dsk RD pd d) (hL : Heap.le RL H) (hoff : Off RD RL) (hrow : RL p = some (.row true 0 (lgRow pd half base used last lv) 0)) (hl : last < 4294967296)
    (at0 : Nat) (hdn : d.down = false) (hh : half ≤ 1200) (hin : at0 + half ≤ d.now.length) :
    ECalls Try.prog 27 #[.pointer (some ⟨p, 0, none⟩), .int .i64 at0] H fun v H' => ∃ A, A = upd RL p (.row true 0 (lgRow pd half base used (lastTo ((d.now.drop at0).take half) last half) lv) 0) ∧ Own H RL H' A ∧
      ∃ a m c z B, z = scanTo ((d.now.drop at0).take half) half ∧ v = .tuple #[.agg #[.int .u32 z.first, .int .i64 z.used, .slice a m c], .int .i64 0] ∧ SlA B a m 1 (z.b.map u8V) ∧ m ≤ c ∧ Heap.le B H' ∧ Off A B ∧ Off (rest H RL) B := by
  have hnow : d.now.length ≤ 4096 := by
    obtain ⟨_, _, _, _, _, _, _, _, _, hd'⟩ := hd
    rw [hd'.same]; exact hd'.few
  obtain ⟨l, hll⟩ : ∃ l, l = (d.now.drop at0).take half := ⟨_, rfl⟩
  have hlen : l.length = half := by rw [hll]; simp; omega
  have hat : ∀ k s, l[k]? = some s → d.now[at0 + k]? = some s := fun k s h => by
    rw [hll, List.getElem?_take, List.getElem?_drop] at h
    split at h
    · exact h
    · cases h
  rw [← hll]
  clear hll
  refine ecalls_of_ewp (args := [_, _]) Try.func27 rfl rfl rfl (by simp [Try.ntmps27]) (by kernel_rfl) ?_
  have t0 : TwoO (rest H RL) RL (fun _ => none) H := ⟨rest_le _ _, hL, (fun _ _ h => by cases h), rest_off _ _, Off.nil, fun _ _ _ => rfl⟩
  have hF0 : Heap.le RD (rest H RL) := rest_of hD hoff
  have hFr := Heap.le_refl (rest H RL)
  have hp0 := hrow
  unfold lgRow at hp0
  simp (disch := first | omega | assumption | decide | (simp <;> omega) | fail) [facts, ]
  refine fresh_intro fun b4 hb4 => ?_
  replace t0 := t0.keep hb4 (.row true 0 [.int .u32 0, .int .i64 0, .slice none 0 0] 0)
  replace hFr := Heap.le_trans hFr (le_upd (.row true 0 [.int .u32 0, .int .i64 0, .slice none 0 0] 0) (le_of_none (rest_le H RL) hb4))
  have f4 := upd_same (rest H RL) b4 (.row true 0 [.int .u32 0, .int .i64 0, .slice none 0 0] 0)
  replace hF0 := Heap.le_trans hF0 (le_upd (.row true 0 [.int .u32 0, .int .i64 0, .slice none 0 0] 0) (le_of_none (rest_le H RL) hb4))
  generalize upd (rest H RL) b4 (.row true 0 [.int .u32 0, .int .i64 0, .slice none 0 0] 0) = F at *
  generalize upd H b4 (.row true 0 [.int .u32 0, .int .i64 0, .slice none 0 0] 0) = H1 at *
  simp (disch := first | omega | assumption | decide | (simp <;> omega) | fail) [facts, ]
  refine fresh_intro fun b6 hb6 => ?_
  have own6 := (Own.nil (Heap.le_refl H1)).add hb6 (.row true 0 [.int .u32 0, .int .i64 0, .slice none 0 0] 0)
  have t1 := t0.right own6
  have b61 := upd_same (fun _ => none) b6 (.row true 0 [.int .u32 0, .int .i64 0, .slice none 0 0] 0)
  generalize upd (fun _ => none) b6 (.row true 0 [.int .u32 0, .int .i64 0, .slice none 0 0] 0) = B1 at *
  generalize upd H1 b6 (.row true 0 [.int .u32 0, .int .i64 0, .slice none 0 0] 0) = H2 at *
  simp (disch := first | omega | assumption | decide | (simp <;> omega) | fail) [facts, ]
  refine fresh_intro fun b8 hb8 => ?_
  have n68 : b6 ≠ b8 := ne_of_fresh hb8 (t1.ble _ _ b61)
  have own8 := (Own.refl t1.ble).add hb8 (.row true 0 [.int .u32 0, .int .i64 0, .int .i64 0, .slice none 0 0] 0)
  have t2 := t1.right own8
  have b82 := upd_same B1 b8 (.row true 0 [.int .u32 0, .int .i64 0, .int .i64 0, .slice none 0 0] 0)
  have b62 : upd B1 b8 (.row true 0 [.int .u32 0, .int .i64 0, .int .i64 0, .slice none 0 0] 0) b6 = some (.row true 0 [.int .u32 0, .int .i64 0, .slice none 0 0] 0) := (upd_ne _ _ n68).trans b61
  simp (disch := first | omega | assumption | decide | (simp <;> omega) | fail) [facts, upd_upd]
  generalize upd B1 b8 (.row true 0 [.int .u32 0, .int .i64 0, .int .i64 0, .slice none 0 0] 0) = B2 at *
  generalize upd H2 b8 (.row true 0 [.int .u32 0, .int .i64 0, .int .i64 0, .slice none 0 0] 0) = H3 at *
  have hp3 := t2.ale _ _ hp0
  simp (disch := first | omega | assumption | decide | (simp <;> omega) | fail) [facts, hp3]
  refine w_loop (scInv F RL pd p half at0 base used last lv l b4 b6 b8) (fun st => half - (intOf (st.env 21)).toNat) ?_ ?_
  · refine ⟨0, st0, B2, .slice none 0 0, .slice none 0 0, none, 0, 0, Nat.zero_le _, rfl, by simp [st0], by simp [st0], by simp [st0], by simp [st0], by simp [st0], by simp [st0], by simp [st0], by simp [st0], by simp [st0], by simp [st0], ?_, ?_⟩
    · have : upd RL p (.row true 0 (lgRow pd half base used (lastTo l last 0) lv) 0) = RL := by
        funext x
        by_cases hx : x = p
        · subst hx; rw [upd_same, hrow]; rfl
        · rw [upd_ne _ _ hx]
      rw [this]; exact t2
    · exact ⟨b62, b82, n68, LstR.nil _ _, LstR.nil _ _, by simp [blkV], by simp [blkV], by simp [blkV], by simp [blkV], by simp [blkV]⟩
  clear own6 own8 t0 t1 t2 b61 b62 b82 hp3 hb6 hb8
  rintro ⟨env, G⟩ ⟨k, z, B, vw, vh, pa, pm, pc, hk, hz, e0, e1, e4, e5, e6, e7, e8, e9, e20, e21, t, sb⟩
  simp only at e0 e1 e4 e5 e6 e7 e8 e9 e20 e21 t
  obtain ⟨q1, q2, q3, q4, q5, q6, q7⟩ := scanTo_small l k
  rw [← hz] at q1 q2 q3 q4 q5 q6 q7
  have hlast := lastTo_lt l hl k
  by_cases hlt : k < half
  case neg =>
    obtain rfl : k = half := by omega
    have hltI : ¬ (k : Int) < (k : Int) := by omega
    have r6 := t.ble _ _ sb.r6
    have r4 := t.fle _ _ f4
    have ownA := own_of_two t hFr
    have hA4 := t.fa _ _ f4
    have hB4 := t.fb _ _ f4
    obtain ⟨av, cv, hva, hslv, hcv⟩ := LstR.sl sb.lh (Heap.le_refl B)
    rw [hva] at r6
    simp (disch := first | omega | assumption | decide | (simp <;> omega) | fail) [facts, e0, e1, e4, e5, e6, e7, e8, e9, e20, e21, hltI, r6, r4]
    refine ⟨_, Heap.le_refl _, ownA.aside hb4 hA4 _, av, z.b.length, cv, ⟨?_, ?_⟩, B, by rw [← hz]; exact hslv, hcv, le_updN t.ble hB4 _, t.ab, fun b o h => t.fb b o (hFr _ _ h)⟩
    · simp [← hz]
    · simp [← hz]
  have hltI : (k : Int) < (half : Int) := by omega
  obtain ⟨s, hs⟩ : ∃ s, l[k]? = some s := ⟨_, List.getElem?_eq_getElem (by omega)⟩
  have hds := hat k s hs
  have hat0 : ((at0 : Int) + (k : Int)) = ((at0 + k : Nat) : Int) := by omega
  have crd := jread_c (RD := RD) (RL := upd RL p (.row true 0 (lgRow pd half base used (lastTo l last k) lv) 0)) (H := G) (p := p) (Heap.le_trans hF0 t.fle) hd t.ale (upd_same _ _ _) hlast (at0 + k) hdn hds
  rw [← hat0] at crd
  simp (disch := first | omega | assumption | decide | (simp <;> omega) | fail) [facts, e0, e1, e4, e5, e6, e7, e8, e9, e20, e21, hltI]
  refine crd.mono ?_
  rintro v G1 ⟨own1, xa, xm, xc, rfl, hx, hxc⟩
  rw [upd_upd, ← lastTo_succ hs] at own1
  replace t := t.left own1
  clear own1 crd
  unfold pcV
  have hpn : s.pc.n < 4294967296 ∧ s.pc.pl < 65536 ∧ s.pc.ct < 65536 ∧ s.pc.b.length ≤ 64 := s.pc_small
  simp (disch := first | omega | assumption | decide | (simp <;> omega) | fail) [facts, ]
  refine fresh_intro fun b11 hb11 => ?_
  have tk := t.keep hb11 (.row true 0 [.int .u32 s.pc.n, .int .i64 s.pc.pl, .int .i64 s.pc.ct, .slice xa xm xc] 0)
  have f11 := upd_same F b11 (.row true 0 [.int .u32 s.pc.n, .int .i64 s.pc.pl, .int .i64 s.pc.ct, .slice xa xm xc] 0)
  have hFF : Heap.le F (upd F b11 (.row true 0 [.int .u32 s.pc.n, .int .i64 s.pc.pl, .int .i64 s.pc.ct, .slice xa xm xc] 0)) := le_upd _ (le_of_none t.fle hb11)
  replace hx := hx.le (le_upd (.row true 0 [.int .u32 s.pc.n, .int .i64 s.pc.pl, .int .i64 s.pc.ct, .slice xa xm xc] 0) hb11)
  simp (disch := first | omega | assumption | decide | (simp <;> omega) | fail) [facts, upd_upd, -w_region]
  generalize upd F b11 (.row true 0 [.int .u32 s.pc.n, .int .i64 s.pc.pl, .int .i64 s.pc.ct, .slice xa xm xc] 0) = F1 at *
  generalize upd G1 b11 (.row true 0 [.int .u32 s.pc.n, .int .i64 s.pc.pl, .int .i64 s.pc.ct, .slice xa xm xc] 0) = G2 at *
  obtain ⟨x, hxd⟩ : ∃ x, x = s.pc := ⟨_, rfl⟩
  have r11 := tk.fle _ _ f11
  have r8 := tk.ble _ _ sb.r8
  have r6 := tk.ble _ _ sb.r6
  rw [← hxd] at hpn r11 hx f11 ⊢
  obtain ⟨hx1, hx2, hx3, hx4⟩ := hpn
  simp only [w_region]
  simp (disch := first | omega | assumption | decide | (simp <;> omega) | fail) [facts, -w_region]
  obtain ⟨I1, hI1⟩ : ∃ I : St → Prop, I = (fun st => scE p at0 b4 b6 b8 b11 half k vw z.done (decide s.ok) G2 st ∧ st.env 14 = .bool (decide (x.pl = 0) && decide (z.prev.n < x.n) && decide (z.prev.pl + 1 = z.prev.ct))) := ⟨_, rfl⟩
  refine w_cut I1 ?_ ?_
  · by_cases c1 : x.pl = 0
    case neg =>
      have c1I : ¬ (x.pl : Int) = 0 := by omega
      simp (disch := first | omega | assumption | decide | (simp <;> omega) | fail) [facts, e0, e1, e4, e5, e6, e7, e8, e9, e20, e21, r11, c1I, c1]
      subst hI1
      exact ⟨⟨by simp [e0], by simp [e1], by simp [e4], by simp [e5], by simp [e6], by simp [e7], by simp [e8], by simp [e9], by simp [e20], by simp [e21], by simp, by simp, by simp, by simp, rfl⟩, by simp [c1]⟩
    by_cases c2 : z.prev.n < x.n
    case neg =>
      have c2I : ¬ (z.prev.n : Int) < (x.n : Int) := by omega
      simp (disch := first | omega | assumption | decide | (simp <;> omega) | fail) [facts, e0, e1, e4, e5, e6, e7, e8, e9, e20, e21, r11, r8, c1, c2, c2I]
      subst hI1
      exact ⟨⟨by simp [e0], by simp [e1], by simp [e4], by simp [e5], by simp [e6], by simp [e7], by simp [e8], by simp [e9], by simp [e20], by simp [e21], by simp, by simp, by simp, by simp, rfl⟩, by simp [c1, c2]⟩
    have c2I : (z.prev.n : Int) < (x.n : Int) := by omega
    by_cases c3 : z.prev.pl + 1 = z.prev.ct
    · have c3I : (z.prev.pl : Int) = (z.prev.ct : Int) - 1 := by omega
      simp (disch := first | omega | assumption | decide | (simp <;> omega) | fail) [facts, e0, e1, e4, e5, e6, e7, e8, e9, e20, e21, r11, r8, c1, c2, c2I, c3I]
      subst hI1
      exact ⟨⟨by simp [e0], by simp [e1], by simp [e4], by simp [e5], by simp [e6], by simp [e7], by simp [e8], by simp [e9], by simp [e20], by simp [e21], by simp, by simp, by simp, by simp, rfl⟩, by simp [c1, c2, c3]⟩
    · have c3I : ¬ (z.prev.pl : Int) = (z.prev.ct : Int) - 1 := by omega
      simp (disch := first | omega | assumption | decide | (simp <;> omega) | fail) [facts, e0, e1, e4, e5, e6, e7, e8, e9, e20, e21, r11, r8, c1, c2, c2I, c3I]
      subst hI1
      exact ⟨⟨by simp [e0], by simp [e1], by simp [e4], by simp [e5], by simp [e6], by simp [e7], by simp [e8], by simp [e9], by simp [e20], by simp [e21], by simp, by simp, by simp, by simp, rfl⟩, by simp [c1, c2, c3]⟩
  subst hI1
  clear e0 e1 e4 e5 e6 e7 e8 e9 e20 e21
  rintro ⟨env, G'⟩ ⟨⟨e0, e1, e4, e5, e6, e7, e8, e9, e20, e21, e10, e11, e12, e13, hG⟩, e14⟩
  simp only at e0 e1 e4 e5 e6 e7 e8 e9 e20 e21 e10 e11 e12 e13 e14 hG
  subst hG
  rw [w_seq]
  obtain ⟨I2, hI2⟩ : ∃ I : St → Prop, I = (fun st => scE p at0 b4 b6 b8 b11 half k vw z.done (decide s.ok) G' st ∧ st.env 14 = .bool (begZ k z.prev x)) := ⟨_, rfl⟩
  refine w_cut I2 ?_ ?_
  · by_cases k0 : k = 0
    · have k0I : (k : Int) = 0 := by omega
      by_cases c1 : x.pl = 0
      · simp (disch := first | omega | assumption | decide | (simp <;> omega) | fail) [facts, e0, e1, e4, e5, e6, e7, e8, e9, e20, e21, e10, e11, e12, e13, e14, r11, k0I, k0, c1]
        subst hI2
        exact ⟨⟨by simp [e0], by simp [e1], by simp [e4], by simp [e5], by simp [e6], by simp [e7], by simp [e8], by simp [e9], by simp [e20], by simp [e21], by simp [e10], by simp [e11], by simp [e12], by simp [e13], rfl⟩, by simp [begZ, k0, c1]⟩
      · have c1I : ¬ (x.pl : Int) = 0 := by omega
        simp (disch := first | omega | assumption | decide | (simp <;> omega) | fail) [facts, e0, e1, e4, e5, e6, e7, e8, e9, e20, e21, e10, e11, e12, e13, e14, r11, k0I, k0, c1, c1I]
        subst hI2
        exact ⟨⟨by simp [e0], by simp [e1], by simp [e4], by simp [e5], by simp [e6], by simp [e7], by simp [e8], by simp [e9], by simp [e20], by simp [e21], by simp [e10], by simp [e11], by simp [e12], by simp [e13], rfl⟩, by simp [begZ, k0, c1]⟩
    · have k0I : ¬ (k : Int) = 0 := by omega
      simp (disch := first | omega | assumption | decide | (simp <;> omega) | fail) [facts, e0, e1, e4, e5, e6, e7, e8, e9, e20, e21, e10, e11, e12, e13, e14, r11, k0I, k0]
      subst hI2
      exact ⟨⟨by simp [e0], by simp [e1], by simp [e4], by simp [e5], by simp [e6], by simp [e7], by simp [e8], by simp [e9], by simp [e20], by simp [e21], by simp [e10], by simp [e11], by simp [e12], by simp [e13], rfl⟩, by simp [begZ, k0, e14]⟩
  subst hI2
  clear e0 e1 e4 e5 e6 e7 e8 e9 e20 e21 e10 e11 e12 e13 e14
  rintro ⟨env, G3⟩ ⟨⟨e0, e1, e4, e5, e6, e7, e8, e9, e20, e21, e10, e11, e12, e13, hG⟩, e14⟩
  simp only at e0 e1 e4 e5 e6 e7 e8 e9 e20 e21 e10 e11 e12 e13 e14 hG
  subst hG
  rw [w_seq]
  obtain ⟨I3, hI3⟩ : ∃ I : St → Prop, I = (fun st => scE p at0 b4 b6 b8 b11 half k vw z.done (decide s.ok) G3 st ∧ st.env 14 = .bool (begZ k z.prev x) ∧ st.env 15 = .bool (goZ z.prev x)) := ⟨_, rfl⟩
  refine w_cut I3 ?_ ?_
  · by_cases c1 : x.n = z.prev.n
    case neg =>
      have c1I : ¬ (x.n : Int) = (z.prev.n : Int) := by omega
      simp (disch := first | omega | assumption | decide | (simp <;> omega) | fail) [facts, e0, e1, e4, e5, e6, e7, e8, e9, e20, e21, e10, e11, e12, e13, e14, r11, r8, c1I, c1]
      subst hI3
      exact ⟨⟨by simp [e0], by simp [e1], by simp [e4], by simp [e5], by simp [e6], by simp [e7], by simp [e8], by simp [e9], by simp [e20], by simp [e21], by simp [e10], by simp [e11], by simp [e12], by simp [e13], rfl⟩, by simp [e14], by simp [goZ, c1]⟩
    by_cases c2 : x.pl = z.prev.pl + 1
    case neg =>
      have c2I : ¬ (x.pl : Int) = (z.prev.pl : Int) + 1 := by omega
      simp (disch := first | omega | assumption | decide | (simp <;> omega) | fail) [facts, e0, e1, e4, e5, e6, e7, e8, e9, e20, e21, e10, e11, e12, e13, e14, r11, r8, c1, c2I, c2]
      subst hI3
      exact ⟨⟨by simp [e0], by simp [e1], by simp [e4], by simp [e5], by simp [e6], by simp [e7], by simp [e8], by simp [e9], by simp [e20], by simp [e21], by simp [e10], by simp [e11], by simp [e12], by simp [e13], rfl⟩, by simp [e14], by simp [goZ, c2]⟩
    have c2I : (x.pl : Int) = (z.prev.pl : Int) + 1 := by omega
    by_cases c3 : x.ct = z.prev.ct
    · simp (disch := first | omega | assumption | decide | (simp <;> omega) | fail) [facts, e0, e1, e4, e5, e6, e7, e8, e9, e20, e21, e10, e11, e12, e13, e14, r11, r8, c1, c2I, c3]
      subst hI3
      exact ⟨⟨by simp [e0], by simp [e1], by simp [e4], by simp [e5], by simp [e6], by simp [e7], by simp [e8], by simp [e9], by simp [e20], by simp [e21], by simp [e10], by simp [e11], by simp [e12], by simp [e13], rfl⟩, by simp [e14], by simp [goZ, c1, c2, c3]⟩
    · have c3I : ¬ (x.ct : Int) = (z.prev.ct : Int) := by omega
      simp (disch := first | omega | assumption | decide | (simp <;> omega) | fail) [facts, e0, e1, e4, e5, e6, e7, e8, e9, e20, e21, e10, e11, e12, e13, e14, r11, r8, c1, c2I, c3I, c3]
      subst hI3
      exact ⟨⟨by simp [e0], by simp [e1], by simp [e4], by simp [e5], by simp [e6], by simp [e7], by simp [e8], by simp [e9], by simp [e20], by simp [e21], by simp [e10], by simp [e11], by simp [e12], by simp [e13], rfl⟩, by simp [e14], by simp [goZ, c3]⟩
  subst hI3
  clear e0 e1 e4 e5 e6 e7 e8 e9 e20 e21 e10 e11 e12 e13 e14
  rintro ⟨env, G4⟩ ⟨⟨e0, e1, e4, e5, e6, e7, e8, e9, e20, e21, e10, e11, e12, e13, hG⟩, e14, e15⟩
  simp only at e0 e1 e4 e5 e6 e7 e8 e9 e20 e21 e10 e11 e12 e13 e14 e15 hG
  subst hG
  rw [w_seq, w_seq]
  have hbad : badZ k z s = (z.done || !decide s.ok || decide (x.ct ≤ x.pl) || (!begZ k z.prev x && !goZ z.prev x)) := by rw [hxd]; rfl
  obtain ⟨bd, hbd⟩ : ∃ b, b = badZ k z s := ⟨_, rfl⟩
  obtain ⟨bz, hbz⟩ : ∃ b, b = begZ k z.prev x := ⟨_, rfl⟩
  obtain ⟨gz, hgz⟩ : ∃ b, b = goZ z.prev x := ⟨_, rfl⟩
  obtain ⟨dn, hdnz⟩ : ∃ b, b = z.done := ⟨_, rfl⟩
  obtain ⟨ok, hok⟩ : ∃ b, b = decide s.ok := ⟨_, rfl⟩
  rw [← hbd, ← hbz, ← hgz, ← hdnz, ← hok] at hbad
  rw [← hbz] at e14
  rw [← hgz] at e15
  rw [← hdnz] at e9
  rw [← hok] at e12
  obtain ⟨I4, hI4⟩ : ∃ I : St → Prop, I = (fun st => scE p at0 b4 b6 b8 b11 half k vw bd ok G4 st ∧ st.env 14 = .bool bz) := ⟨_, rfl⟩
  refine w_cut I4 ?_ ?_
  · cases dn with
    | true =>
      obtain rfl : bd = true := by rw [hbad]; rfl
      simp (disch := first | omega | assumption | decide | (simp <;> omega) | fail) [facts, e0, e1, e4, e5, e6, e7, e8, e9, e20, e21, e10, e11, e12, e13, e14, e15, r11]
      subst hI4
      exact ⟨⟨by simp [e0], by simp [e1], by simp [e4], by simp [e5], by simp [e6], by simp [e7], by simp [e8], by simp [e9], by simp [e20], by simp [e21], by simp [e10], by simp [e11], by simp [e12], by simp [e13], rfl⟩, by simp [e14]⟩
    | false =>
      cases ok with
      | false =>
        obtain rfl : bd = true := by rw [hbad]; rfl
        simp (disch := first | omega | assumption | decide | (simp <;> omega) | fail) [facts, e0, e1, e4, e5, e6, e7, e8, e9, e20, e21, e10, e11, e12, e13, e14, e15, r11]
        subst hI4
        exact ⟨⟨by simp [e0], by simp [e1], by simp [e4], by simp [e5], by simp [e6], by simp [e7], by simp [e8], by simp [e9], by simp [e20], by simp [e21], by simp [e10], by simp [e11], by simp [e12], by simp [e13], rfl⟩, by simp [e14]⟩
      | true =>
        by_cases c1 : x.ct ≤ x.pl
        · have c1I : (x.ct : Int) ≤ (x.pl : Int) := by omega
          obtain rfl : bd = true := by rw [hbad]; simp [c1]
          simp (disch := first | omega | assumption | decide | (simp <;> omega) | fail) [facts, e0, e1, e4, e5, e6, e7, e8, e9, e20, e21, e10, e11, e12, e13, e14, e15, r11, c1I, c1]
          subst hI4
          exact ⟨⟨by simp [e0], by simp [e1], by simp [e4], by simp [e5], by simp [e6], by simp [e7], by simp [e8], by simp [e9], by simp [e20], by simp [e21], by simp [e10], by simp [e11], by simp [e12], by simp [e13], rfl⟩, by simp [e14]⟩
        · have c1I : ¬ (x.ct : Int) ≤ (x.pl : Int) := by omega
          cases bz with
          | true =>
            obtain rfl : bd = false := by rw [hbad]; simp [c1]
            simp (disch := first | omega | assumption | decide | (simp <;> omega) | fail) [facts, e0, e1, e4, e5, e6, e7, e8, e9, e20, e21, e10, e11, e12, e13, e14, e15, r11, c1I, c1]
            subst hI4
            exact ⟨⟨by simp [e0], by simp [e1], by simp [e4], by simp [e5], by simp [e6], by simp [e7], by simp [e8], by simp [e9], by simp [e20], by simp [e21], by simp [e10], by simp [e11], by simp [e12], by simp [e13], rfl⟩, by simp [e14]⟩
          | false =>
            cases gz with
            | true =>
              obtain rfl : bd = false := by rw [hbad]; simp [c1]
              simp (disch := first | omega | assumption | decide | (simp <;> omega) | fail) [facts, e0, e1, e4, e5, e6, e7, e8, e9, e20, e21, e10, e11, e12, e13, e14, e15, r11, c1I, c1]
              subst hI4
              exact ⟨⟨by simp [e0], by simp [e1], by simp [e4], by simp [e5], by simp [e6], by simp [e7], by simp [e8], by simp [e9], by simp [e20], by simp [e21], by simp [e10], by simp [e11], by simp [e12], by simp [e13], rfl⟩, by simp [e14]⟩
            | false =>
              obtain rfl : bd = true := by rw [hbad]; simp [c1]
              simp (disch := first | omega | assumption | decide | (simp <;> omega) | fail) [facts, e0, e1, e4, e5, e6, e7, e8, e9, e20, e21, e10, e11, e12, e13, e14, e15, r11, c1I, c1]
              subst hI4
              exact ⟨⟨by simp [e0], by simp [e1], by simp [e4], by simp [e5], by simp [e6], by simp [e7], by simp [e8], by simp [e9], by simp [e20], by simp [e21], by simp [e10], by simp [e11], by simp [e12], by simp [e13], rfl⟩, by simp [e14]⟩
  subst hI4
  clear e0 e1 e4 e5 e6 e7 e8 e9 e20 e21 e10 e11 e12 e13 e14 e15
  rintro ⟨env, G5⟩ ⟨⟨e0, e1, e4, e5, e6, e7, e8, e9, e20, e21, e10, e11, e12, e13, hG⟩, e14⟩
  simp only at e0 e1 e4 e5 e6 e7 e8 e9 e20 e21 e10 e11 e12 e13 e14 hG
  subst hG
  have hsucc := scanTo_succ hs
  rw [← hz] at hsucc
  cases bd with
  | true =>
    simp (disch := first | omega | assumption | decide | (simp <;> omega) | fail) [facts, e0, e1, e4, e5, e6, e7, e8, e9, e20, e21, e10, e11, e12, e13, e14]
    have hst : scanStep k z s = { z with done := true } := if_pos hbd.symm
    refine ⟨_, Heap.le_refl _, ⟨k + 1, { z with done := true }, B, vw, vh, pa, pm, pc, by omega, by rw [hsucc, hst], by simp [e0], by simp [e1], by simp [e4], by simp [e5], by simp [e6], by simp [e7], by simp [e8], by simp [e9], by simp [e20], by simp, tk.less hFF, ⟨sb.r6, sb.r8, sb.n68, sb.lw, sb.lh, sb.w6, sb.w8, sb.h6, sb.h8, sb.wh⟩⟩, by simp [intOf, e21]; omega⟩
  | false =>
    rw [w_seq]
    simp only [w_region]
    simp (disch := first | omega | assumption | decide | (simp <;> omega) | fail) [facts, e0, e1, e4, e5, e6, e7, e8, e9, e20, e21, e10, e11, e12, e13, e14, -w_region, -w_seq]
    rw [w_seq]
    obtain ⟨vw1, w0, hvw, hw0, lw1, w61, w81, wh1⟩ : ∃ vw1 w0, (vw1 = if bz then .slice none 0 0 else vw) ∧ (w0 = if bz then [] else z.whole) ∧ LB B vw1 w0 ∧ blkV vw1 ≠ some b6 ∧ blkV vw1 ≠ some b8 ∧ ∀ i, blkV vw1 = some i → blkV vh ≠ some i := by
      cases bz with
      | true => exact ⟨_, _, rfl, rfl, LstR.nil _ _, by simp [blkV], by simp [blkV], by simp [blkV]⟩
      | false => exact ⟨_, _, rfl, rfl, sb.lw, sb.w6, sb.w8, sb.wh⟩
    obtain ⟨I5, hI5⟩ : ∃ I : St → Prop, I = (fun st => scE p at0 b4 b6 b8 b11 half k vw1 false ok G5 st) := ⟨_, rfl⟩
    refine w_cut I5 ?_ ?_
    · cases bz with
      | true =>
        simp only [if_true] at hvw
        simp (disch := first | omega | assumption | decide | (simp <;> omega) | fail) [facts, e0, e1, e4, e5, e6, e7, e8, e9, e20, e21, e10, e11, e12, e13, e14]
        subst hI5
        exact ⟨by simp [e0], by simp [e1], by simp [e4], by simp [e5], by simp [e6], by simp [hvw, e7], by simp [e8], by simp [e9], by simp [e20], by simp [e21], by simp [e10], by simp [e11], by simp [e12], by simp [e13], rfl⟩
      | false =>
        simp only [Bool.false_eq_true, if_false] at hvw
        simp (disch := first | omega | assumption | decide | (simp <;> omega) | fail) [facts, e0, e1, e4, e5, e6, e7, e8, e9, e20, e21, e10, e11, e12, e13, e14]
        subst hI5
        exact ⟨by simp [e0], by simp [e1], by simp [e4], by simp [e5], by simp [e6], by simp [hvw, e7], by simp [e8], by simp [e9], by simp [e20], by simp [e21], by simp [e10], by simp [e11], by simp [e12], by simp [e13], rfl⟩
    subst hI5
    clear e0 e1 e4 e5 e6 e7 e8 e9 e20 e21 e10 e11 e12 e13 e14
    rintro ⟨env, G6⟩ ⟨e0, e1, e4, e5, e6, e7, e8, e9, e20, e21, e10, e11, e12, e13, hG⟩
    simp only at e0 e1 e4 e5 e6 e7 e8 e9 e20 e21 e10 e11 e12 e13 hG
    subst hG
    rw [w_seq]
    obtain ⟨A, hA⟩ : ∃ A, A = upd RL p (.row true 0 (lgRow pd half base used (lastTo l last (k + 1)) lv) 0) := ⟨_, rfl⟩
    rw [← hA] at tk
    have hw0l : w0.length ≤ 64 * k := by
      rw [hw0]
      split
      · simp
      · omega
    obtain ⟨I6, hI6⟩ : ∃ I : St → Prop, I = (fun st => ∃ B' vw' G7, scE p at0 b4 b6 b8 b11 half k vw' false ok G7 st ∧ TwoO F1 A B' G7 ∧ ScB B' b6 b8 vw' vh ⟨false, x, w0 ++ x.b, z.first, z.used, z.b⟩ xa xm xc) := ⟨_, rfl⟩
    refine w_cut I6 ?_ ?_
    · refine w_plan (by simp [facts]) (opsP [0,1,2] (.both (opsP [3,5,4,6] .done) (opsP [4,3,5,6] .done))) (by decide +kernel) ?_
      simp (disch := first | omega | assumption | decide | (simp <;> omega) | fail) [facts, e0, e1, e4, e5, e6, e7, e8, e9, e20, e21, e10, e11, e12, e13, r11]
      refine ⟨?_, ?_⟩
      all_goals
        refine app_b lw1 (Own.refl tk.ble) ⟨xa, xm, xc, rfl, hx⟩ (by omega) ?_
        intro v' G7 B7 ow' lb' hkp
        have tk2 := tk.right ow'
        have r11' := tk2.fle _ _ f11
        have k6 := hkp _ _ sb.r6 w61
        have k8 := hkp _ _ sb.r8 w81
        have r8' := tk2.ble _ _ k8.1
        simp (disch := first | omega | assumption | decide | (simp <;> omega) | fail) [facts, e0, e1, e4, e5, e6, e7, e8, e9, e20, e21, e10, e11, e12, e13, r11', r8']
        subst hI6
        refine ⟨upd B7 b8 (.row true 0 [.int .u32 x.n, .int .i64 x.pl, .int .i64 x.ct, .slice xa xm xc] 0), v', _, ⟨by simp [e0], by simp [e1], by simp [e4], by simp [e5], by simp [e6], by simp [e7], by simp [e8], by simp [e9], by simp [e20], by simp [e21], by simp [e10], by simp [e11], by simp [e12], by simp [e13], rfl⟩, tk2.right ((Own.refl tk2.ble).set k8.1 _), ?_⟩
        refine ⟨(upd_ne _ _ sb.n68).trans k6.1, upd_same _ _ _, sb.n68, ?_, ?_, k6.2, k8.2, sb.h6, sb.h8, ?_⟩
        · refine LstR.up lb' fun i o hi ho => ?_
          rw [upd_ne _ _ (fun e => k8.2 (by rw [hi, e]))]
          exact ho
        · refine LstR.up sb.lh fun i o hi ho => ?_
          rw [upd_ne _ _ (fun e => sb.h8 (by rw [hi, e]))]
          exact (hkp i o ho fun e => wh1 i e hi).1
        · intro i hi hv
          obtain ⟨o, ho⟩ := LstR.blk sb.lh hv
          exact (hkp i o ho fun e => wh1 i e hv).2 hi
    subst hI6
    clear e0 e1 e4 e5 e6 e7 e8 e9 e20 e21 e10 e11 e12 e13
    rintro ⟨env, G8⟩ ⟨B', vw', G7, ⟨e0, e1, e4, e5, e6, e7, e8, e9, e20, e21, e10, e11, e12, e13, hG⟩, tk', sb'⟩
    simp only at e0 e1 e4 e5 e6 e7 e8 e9 e20 e21 e10 e11 e12 e13 hG
    subst hG
    have r11' := tk'.fle _ _ f11
    have hst : scanStep k z s = (if x.pl + 1 = x.ct then ⟨false, x, w0 ++ x.b, if z.first = 0 then x.n else z.first, k + 1, z.b ++ (w0 ++ x.b)⟩ else ⟨false, x, w0 ++ x.b, z.first, z.used, z.b⟩) := by
      unfold scanStep
      rw [if_neg (by rw [← hbd]; simp), hw0, hbz, hxd]
    rw [hst] at hsucc
    have hw1 : (w0 ++ x.b).length ≤ 64 * k + 64 := by rw [List.length_append]; omega
    have hkk : 64 * k * k ≤ 64 * 1200 * 1200 := Nat.mul_le_mul (Nat.mul_le_mul_left _ (by omega)) (by omega)
    by_cases c1 : x.pl + 1 = x.ct
    case neg =>
      have c1I : ¬ (x.pl : Int) = (x.ct : Int) - 1 := by omega
      rw [if_neg c1] at hsucc
      simp (disch := first | omega | assumption | decide | (simp <;> omega) | fail) [facts, e0, e1, e4, e5, e6, e7, e8, e9, e20, e21, e10, e11, e12, e13, r11', c1I]
      exact ⟨_, Heap.le_refl _, ⟨k + 1, _, B', vw', vh, xa, xm, xc, by omega, hsucc.symm, by simp [e0], by simp [e1], by simp [e4], by simp [e5], by simp [e6], by simp [e7], by simp [e8], by simp [e9], by simp [e20], by simp, by rw [← hA]; exact tk'.less hFF, sb'⟩, by simp [intOf, e21]; omega⟩
    have c1I : (x.pl : Int) = (x.ct : Int) - 1 := by omega
    rw [if_pos c1] at hsucc
    have r6' := tk'.ble _ _ sb'.r6
    simp (disch := first | omega | assumption | decide | (simp <;> omega) | fail) [facts, e0, e1, e4, e5, e6, e7, e8, e9, e20, e21, e10, e11, e12, e13, r11', c1I, r6']
    refine app_b sb'.lh (Own.refl tk'.ble) (sb'.lw.sv tk'.ble) (by simp only; omega) ?_
    intro v2 G9 B9 ow2 lb2 hkp
    replace lb2 : LB B9 v2 (z.b ++ (w0 ++ x.b)) := lb2
    obtain ⟨nn, hnn⟩ : ∃ nn, nn = (z.b ++ (w0 ++ x.b)).length := ⟨_, rfl⟩
    obtain ⟨av, cv, hv2, _, _⟩ := LstR.sl lb2 (Heap.le_refl _)
    rw [← hnn] at hv2
    subst hv2
    have tk2 := tk'.right ow2
    have r11'' := tk2.fle _ _ f11
    have k6 := hkp _ _ sb'.r6 sb'.h6
    have k8 := hkp _ _ sb'.r8 sb'.h8
    have r6'' := tk2.ble _ _ k6.1
    have hwh : ∀ i, blkV vw' = some i → blkV (.slice av nn cv) ≠ some i := fun i hi => by
      obtain ⟨o, ho⟩ := LstR.blk sb'.lw hi
      exact (hkp i o ho (sb'.wh i hi)).2
    have fin : ∀ fr : Nat, ∃ T : TwoO F1 A (upd B9 b6 (.row true 0 [.int .u32 fr, .int .i64 ((k : Int) + 1), .slice av nn cv] 0)) (upd G9 b6 (.row true 0 [.int .u32 fr, .int .i64 ((k : Int) + 1), .slice av nn cv] 0)), ScB (upd B9 b6 (.row true 0 [.int .u32 fr, .int .i64 ((k : Int) + 1), .slice av nn cv] 0)) b6 b8 vw' (.slice av nn cv) ⟨false, x, w0 ++ x.b, fr, k + 1, z.b ++ (w0 ++ x.b)⟩ xa xm xc := fun fr => by
      refine ⟨tk2.right ((Own.refl tk2.ble).set k6.1 _), upd_same _ _ _, (upd_ne _ _ sb'.n68.symm).trans k8.1, sb'.n68, ?_, ?_, sb'.w6, sb'.w8, k6.2, k8.2, hwh⟩
      · refine LstR.up sb'.lw fun i o hi ho => ?_
        rw [upd_ne _ _ (fun e => sb'.w6 (by rw [hi, e]))]
        exact (hkp i o ho (sb'.wh i hi)).1
      · refine LstR.up lb2 fun i o hi ho => ?_
        rw [upd_ne _ _ (fun e => k6.2 (by rw [hi, e]))]
        exact ho
    by_cases c2 : z.first = 0
    · rw [if_pos c2] at hsucc
      obtain ⟨T, S⟩ := fin x.n
      have n611 : b11 ≠ b6 := fun e => by subst e; have := tk2.fb _ _ f11; rw [k6.1] at this; cases this
      have c2I : (z.first : Int) = 0 := by omega
      simp (disch := first | omega | assumption | decide | (simp <;> omega) | fail) [facts, e0, e1, e4, e5, e6, e7, e8, e9, e20, e21, e10, e11, e12, e13, r11'', r6'', c2I, c2, upd_ne, n611, upd_upd]
      exact ⟨_, Heap.le_refl _, ⟨k + 1, _, _, vw', .slice av nn cv, xa, xm, xc, by omega, hsucc.symm, by simp [e0], by simp [e1], by simp [e4], by simp [e5], by simp [e6], by simp [e7], by simp [e8], by simp [e9], by simp [e20], by simp, by rw [← hA]; exact T.less hFF, S⟩, by simp [intOf, e21]; omega⟩
    · rw [if_neg c2] at hsucc
      obtain ⟨T, S⟩ := fin z.first
      have c2I : ¬ (z.first : Int) = 0 := by omega
      simp (disch := first | omega | assumption | decide | (simp <;> omega) | fail) [facts, e0, e1, e4, e5, e6, e7, e8, e9, e20, e21, e10, e11, e12, e13, r11'', r6'', c2I, c2, upd_upd]
      exact ⟨_, Heap.le_refl _, ⟨k + 1, _, _, vw', .slice av nn cv, xa, xm, xc, by omega, hsucc.symm, by simp [e0], by simp [e1], by simp [e4], by simp [e5], by simp [e6], by simp [e7], by simp [e8], by simp [e9], by simp [e20], by simp, by rw [← hA]; exact T.less hFF, S⟩, by simp [intOf, e21]; omega⟩
end
end Go.Proofs.Ytnmbmccigpljnaa.GL
