/- Layer 5: a batch written. -/
import Derived.Test.YtnmbmccigpljnaaJoD
namespace Go.Proofs.Ytnmbmccigpljnaa.GL
open Go Go.RowKit
set_option maxRecDepth 10000
set_option pp.deepTerms.threshold 8
set_option pp.maxSteps 3000
set_option linter.unusedSimpArgs false
set_option linter.unusedVariables false

/-- What the i-th sector carries. -/
def partB (bs : List UInt8) (i : Nat) : List UInt8 := (bs.drop (i * 51)).take 51
def sectorB (n i ct : Nat) (x : List UInt8) : List UInt8 :=
  bytesL n 4 ++ bytesL i 2 ++ bytesL ct 2 ++ [UInt8.ofNat x.length] ++ x ++ List.replicate (51 - x.length) 0 ++ bytesL n 4
/-- The first k sectors of a batch written; or the first fault. -/
def wrK (d : DZ) (at0 n ct : Nat) (bs : List UInt8) : Nat → DZ × Int
  | 0 => (d, 0)
  | k + 1 => match wrK d at0 n ct bs k with
    | (d1, e) => if e ≠ 0 then (d1, e) else (writeD d1 ((at0 + k : Nat) : Int) (sectorB n k ct (partB bs k)), writeE d1 ((at0 + k : Nat) : Int))
def batchZ (d : DZ) (at0 n : Nat) (bs : List UInt8) : DZ × Int :=
  match wrK d at0 n (secsN bs.length) bs (secsN bs.length) with
  | (d1, e) => if e ≠ 0 then (d1, e) else (syncD d1, syncE d1)
theorem wrK_succ {d d1 : DZ} {at0 n ct : Nat} {bs : List UInt8} {k : Nat} (h : wrK d at0 n ct bs k = (d1, 0)) : wrK d at0 n ct bs (k + 1) = (writeD d1 ((at0 + k : Nat) : Int) (sectorB n k ct (partB bs k)), writeE d1 ((at0 + k : Nat) : Int)) := by
  simp [wrK, h]
theorem wrK_bad {d d1 : DZ} {at0 n ct : Nat} {bs : List UInt8} {e : Int} (he : e ≠ 0) {k : Nat} (h : wrK d at0 n ct bs k = (d1, e)) : ∀ m, wrK d at0 n ct bs (k + m) = (d1, e)
  | 0 => h
  | m + 1 => by
    have ih := wrK_bad he h m
    rw [← Nat.add_assoc]
    simp [wrK, ih, he]
theorem writeD_wait {d : DZ} {m : Int} {bs : List UInt8} : (writeD d m bs).wait.length ≤ d.wait.length + 1 ∧ (writeD d m bs).kept.length = d.kept.length := by
  obtain ⟨h1, h2, h3⟩ := powZ_same d
  unfold writeD
  split
  · exact ⟨by omega, rfl⟩
  · split
    · rw [h1, h3]; exact ⟨by omega, rfl⟩
    · unfold writeZ
      simp only [List.length_append, List.length_singleton]
      exact ⟨by omega, by rw [h1]⟩
/-- One more thing stays. -/
theorem TwoO.add {F A B H H' : Heap} (t : TwoO F A B H) (hl : Heap.le H H') {b : Nat} (hb : H b = none) {o : GObj} (hr : H' b = some o) : TwoO (upd F b o) A B H' :=
  ⟨fun i x e => by
    by_cases hi : i = b
    · subst hi; rw [upd_same] at e; cases e; exact hr
    · rw [upd_ne _ _ hi] at e; exact hl _ _ (t.fle _ _ e), Heap.le_trans t.ale hl, Heap.le_trans t.ble hl, fun i x e => by
    by_cases hi : i = b
    · subst hi; exact le_of_none t.ale hb
    · rw [upd_ne _ _ hi] at e; exact t.fa i x e, fun i x e => by
    by_cases hi : i = b
    · subst hi; exact le_of_none t.ble hb
    · rw [upd_ne _ _ hi] at e; exact t.fb i x e, t.ab⟩
theorem Out.raw {H H' : Heap} {sv : Value} {n : Nat} {bs : List UInt8} (h : Out H H' sv 1 n (bs.map u8V)) (hn : 0 < n) : ∃ b o cap room, sv = .slice (some ⟨b, o, none⟩) n cap ∧ H b = none ∧ H' b = some (.row true o (bs.map u8V) room) ∧ n ≤ cap ∧ bs.length = n := by
  rcases h with ⟨h0, _⟩ | ⟨b, o, cap, room, hb, ho⟩
  · omega
  · exact ⟨b, o, cap, room, ho.is, hb, ho.row, ho.capOk, by simpa using ho.len⟩
theorem SlA.bytes {H : Heap} {b o room n : Nat} {bs : List UInt8} (h : H b = some (.row true o (bs.map u8V) room)) (hn : bs.length = n) : SlA H (some ⟨b, o, none⟩) n 1 (bs.map u8V) :=
  SlA.row h (Nat.le_refl _) (by simp [hn]) (by simp [hn]) (by rw [Nat.sub_self, List.drop_zero, Nat.mul_one]; exact List.take_of_length_le (by simp [hn]))
theorem partB_eq {bs : List UInt8} {m k lo hi : Nat} (hm : bs.length = m) (hlo : lo = min (k * 51) m) (hhi : hi = min (k * 51 + 51) m) : (bs.drop lo).take (hi - lo) = partB bs k ∧ (partB bs k).length = hi - lo := by
  unfold partB
  by_cases h : k * 51 ≤ m
  · have e1 : lo = k * 51 := by omega
    rw [e1]
    constructor
    · by_cases h2 : k * 51 + 51 ≤ m
      · have e2 : hi - k * 51 = 51 := by omega
        rw [e2]
      · rw [List.take_of_length_le (by simp; omega), List.take_of_length_le (by simp; omega)]
    · simp; omega
  · rw [List.drop_of_length_le (show bs.length ≤ lo by omega), List.drop_of_length_le (show bs.length ≤ k * 51 by omega)]
    simp; omega
def batInv (F RL RD : Heap) (p pd : Nat) (lrow : List Value) (d : DZ) (at0 n ct m c : Nat) (a : Option Addr) (bs : List UInt8) (sv : Value) (st : St) : Prop :=
  ∃ (k : Nat) (d1 : DZ) (RD' : Heap), k ≤ ct ∧ wrK d at0 n ct bs k = (d1, 0) ∧ d1.wait.length ≤ d.wait.length + k ∧ st.env 0 = .pointer (some ⟨p, 0, none⟩) ∧ st.env 1 = .int .i64 at0 ∧ st.env 2 = .slice a m c ∧ st.env 6 = .int .i64 0 ∧ st.env 7 = .int .i64 ct ∧ st.env 8 = sv ∧ st.env 28 = .int .i64 ct ∧ st.env 29 = .int .i64 k ∧
    TwoO F RL RD' st.heap ∧ Dsk RD' pd d1 ∧ SVa F sv (bytesL n 4)
set_option maxHeartbeats 4000000 in
theorem jbatch_c {F0 RL RD H : Heap} {p pd half base used last : Nat} {lv : Value} {d : DZ} (t : TwoO F0 RL RD H) (hd : Dsk RD pd d) (hrow : RL p = some (.row true 0 (lgRow pd half base used last lv) 0)) (hl : last < 4294967295)
    (at0 : Nat) (hat : at0 ≤ 100000) (hwt : d.wait.length ≤ 10000) {a : Option Addr} {m c : Nat} {bs : List UInt8} (hb : SlA F0 a m 1 (bs.map u8V)) (hm : m ≤ 100000) (hmc : m ≤ c) :
    ECalls Try.prog 33 #[.pointer (some ⟨p, 0, none⟩), .int .i64 at0, .slice a m c] H fun v H' => ∃ RD', v = .int .i64 (batchZ d at0 (last + 1) bs).2 ∧ TwoO F0 (upd RL p (.row true 0 (lgRow pd half base used (last + 1) lv) 0)) RD' H' ∧ Dsk RD' pd (batchZ d at0 (last + 1) bs).1 := by
  refine ecalls_of_ewp (args := [_, _, _]) Try.func33 rfl rfl rfl (by simp [Try.ntmps33]) (by kernel_rfl) ?_
  have hbl : bs.length = m := by simpa using hb.len
  have hrow' := hrow
  unfold lgRow at hrow'
  have rp := t.ale _ _ hrow'
  have ow := (Own.refl t.ale).set hrow (.row true 0 (lgRow pd half base used (last + 1) lv) 0)
  have t1 := t.left ow
  have e1 : upd H p (.row true 0 (lgRow pd half base used (last + 1) lv) 0) p = some (.row true 0 [.pointer (some ⟨pd, 0, none⟩), .int .i64 half, .int .i64 base, .int .i64 used, .int .u32 (((last + 1 : Nat)) : Int), lv] 0) := upd_same _ _ _
  obtain ⟨n, hn⟩ : ∃ n, n = last + 1 := ⟨_, rfl⟩
  have hnI : (last : Int) + 1 = (n : Int) := by omega
  rw [← hn] at t1 e1 ⊢
  obtain ⟨RL1, hRL1⟩ : ∃ R, R = upd RL p (.row true 0 (lgRow pd half base used n lv) 0) := ⟨_, rfl⟩
  rw [← hRL1] at t1 ⊢
  have cs := fun H => jsectors_c a m c H (by omega)
  obtain ⟨ct, hct⟩ : ∃ ct, ct = secsN m := ⟨_, rfl⟩
  have hctl : ct ≤ 2000 := by rw [hct]; unfold secsN; omega
  rw [← hct] at cs
  unfold lgRow at t1 e1
  simp (disch := first | omega | assumption | decide | (simp <;> omega) | fail) [facts, rp, hnI]
  generalize upd H p (.row true 0 [.pointer (some ⟨pd, 0, none⟩), .int .i64 half, .int .i64 base, .int .i64 used, .int .u32 (n : Int), lv] 0) = H1 at *
  refine (cs _).mono ?_
  rintro v H2 ⟨rfl, rfl⟩
  simp (disch := first | omega | assumption | decide | (simp <;> omega) | fail) [facts, e1]
  have cb := bytes_c n 4 H2 (by omega) (by unfold i64In; omega)
  simp only [sizeZ_4] at cb
  refine cb.mono ?_
  rintro sv H3 ⟨hle, hO⟩
  simp (disch := first | omega | assumption | decide | (simp <;> omega) | fail) [facts, ]
  obtain ⟨sb, so, scap, sroom, rfl, hsb, hsr, hsc, hsl⟩ := hO.raw (by decide)
  have t2 := t1.add hle hsb hsr
  have hF0 : Heap.le F0 (upd F0 sb (.row true so ((bytesL n 4).map u8V) sroom)) := le_upd _ (le_of_none t1.fle hsb)
  have hsF := SlA.bytes (upd_same F0 sb (.row true so ((bytesL n 4).map u8V) sroom)) hsl
  generalize upd F0 sb (.row true so ((bytesL n 4).map u8V) sroom) = F at *
  have hrowL : RL1 p = some (.row true 0 [.pointer (some ⟨pd, 0, none⟩), .int .i64 half, .int .i64 base, .int .i64 used, .int .u32 (n : Int), lv] 0) := by rw [hRL1]; exact upd_same _ _ _
  refine w_loop (batInv F RL1 RD p pd [] d at0 n ct m c a bs (.slice (some ⟨sb, so, none⟩) 4 scap)) (fun st => ct - (intOf (st.env 29)).toNat) ?_ ?_
  · exact ⟨0, d, RD, Nat.zero_le _, rfl, Nat.le_refl _, by simp, by simp, by simp, by simp, by simp, by simp, by simp, by simp, t2, hd, ⟨_, _, _, rfl, hsF⟩⟩
  clear t2 hle hsr hO cb
  rintro ⟨env, G⟩ ⟨k, d1, RD1, hk, hw, hwl, e0, e1', e2, e6, e7, e8, e28, e29, t3, hd1, _⟩
  simp only at e0 e1' e2 e6 e7 e8 e28 e29 t3
  by_cases hlt : k < ct
  case neg =>
    obtain rfl : k = ct := by omega
    have hltI : ¬ (k : Int) < (k : Int) := by omega
    have rp3 := t3.ale _ _ hrowL
    have hbz : batchZ d at0 n bs = (syncD d1, syncE d1) := by unfold batchZ; rw [hbl, ← hct, hw]; simp
    rw [hbz]
    simp (disch := first | omega | assumption | decide | (simp <;> omega) | fail) [facts, e0, e1', e2, e6, e7, e8, e28, e29, hltI, rp3]
    refine (diskSync_c t3.ble hd1 (by omega)).mono ?_
    rintro v G2 ⟨rfl, RD2, ow2, hd2⟩
    simp (disch := first | omega | assumption | decide | (simp <;> omega) | fail) [facts, ]
    exact ⟨_, Heap.le_refl _, RD2, (t3.right ow2).less hF0, hd2⟩
  have hltI : (k : Int) < (ct : Int) := by omega
  have hn1 : min ((k : Int) * 51) (m : Int) = ((min (k * 51) m : Nat) : Int) := by omega
  have hn2 : min ((k : Int) * 51 + 51) (m : Int) = ((min (k * 51 + 51) m : Nat) : Int) := by omega
  obtain ⟨lo, hlo⟩ : ∃ x, x = min (k * 51) m := ⟨_, rfl⟩
  obtain ⟨hi, hhi⟩ : ∃ x, x = min (k * 51 + 51) m := ⟨_, rfl⟩
  rw [← hlo] at hn1
  rw [← hhi] at hn2
  simp (disch := first | omega | assumption | decide | (simp <;> omega) | fail) [facts, e0, e1', e2, e6, e7, e8, e28, e29, hltI, hn1, hn2]
  have hmid := hb.mid (l := lo) (h := hi) (by omega) (by omega) hmc
  obtain ⟨hpb, hpl⟩ := partB_eq (k := k) hbl hlo hhi
  rw [hpb] at hmid
  obtain ⟨pa, hpa⟩ : ∃ x, x = (if c = lo then a else Option.map (fun x => x.add lo) a) := ⟨_, rfl⟩
  obtain ⟨w, hwd⟩ : ∃ w, w = hi - lo := ⟨_, rfl⟩
  rw [← hpa, ← hwd] at hmid ⊢
  rw [← hwd] at hpl
  have hw51 : w ≤ 51 := by omega
  have hw3 : (51 : Int) - (w : Int) = ((51 - w : Nat) : Int) := by omega
  obtain ⟨w3, hw3d⟩ : ∃ x, x = 51 - w := ⟨_, rfl⟩
  rw [← hw3d] at hw3
  refine w_growL (by simp [facts]) 17 [45,46,47,48,49,50,51,52,53,54,55,56,57,58,59,60,61] [.eq (.slice (some ⟨sb, so, none⟩) 4 scap), .eq (.int .i64 k), .eq (.int .u64 k), .sva (bytesL k 2), .eq (.int .i64 ct), .eq (.int .u64 ct), .sva (bytesL ct 2), .eq (.slice pa w (c - lo)), .eq (.int .i64 w), .eq (.int .u8 w), .sva [UInt8.ofNat w], .eq (.slice pa w (c - lo)), .eq (.slice pa w (c - lo)), .eq (.int .i64 w), .eq (.int .i64 w3), .sva (List.replicate w3 0), .eq (.slice (some ⟨sb, so, none⟩) 4 scap)] (by decide +kernel) rfl ?_ ?_
  · simp only [List.take_succ_cons, List.take_zero, allL_cons, allL_nil]
    refine ⟨?_, ?_, ?_, ?_, ?_, ?_, ?_, ?_, ?_, ?_, ?_, ?_, ?_, ?_, ?_, ?_, ?_, trivial⟩
    all_goals (unfold stepL; intro f Hx hl ha)
    all_goals try (simp (disch := first | omega | assumption | decide | (simp <;> omega) | fail) [facts, e0, e1', e2, e6, e7, e8, e28, e29, hw3]; done)
    · simp (disch := first | omega | assumption | decide | (simp <;> omega) | fail) [facts, ]
      have cc := bytes_c k 2 Hx (by omega) (by unfold i64In; omega)
      simp only [sizeZ_2] at cc
      refine cc.mono ?_
      rintro w' H' ⟨hl', hO⟩
      simp (disch := first | omega | assumption | decide | (simp <;> omega) | fail) [facts, ]
      exact ⟨hl', SVa.out hO⟩
    · simp (disch := first | omega | assumption | decide | (simp <;> omega) | fail) [facts, ]
      have cc := bytes_c ct 2 Hx (by omega) (by unfold i64In; omega)
      simp only [sizeZ_2] at cc
      refine cc.mono ?_
      rintro w' H' ⟨hl', hO⟩
      simp (disch := first | omega | assumption | decide | (simp <;> omega) | fail) [facts, ]
      exact ⟨hl', SVa.out hO⟩
    · simp (disch := first | omega | assumption | decide | (simp <;> omega) | fail) [facts, ]
      refine fresh_intro fun b hbf => ?_
      simp (disch := first | omega | assumption | decide | (simp <;> omega) | fail) [facts, ]
      have hw256 : (UInt8.ofNat w).toNat = w := by rw [UInt8.toNat_ofNat']; omega
      refine ⟨le_upd _ hbf, ⟨_, 1, 1, rfl, SlA.bytes (room := 0) ?_ rfl⟩⟩
      rw [upd_same]
      simp [u8V, hw256]
    · simp (disch := first | omega | assumption | decide | (simp <;> omega) | fail) [facts, ]
      refine fresh_intro fun b hbf => ?_
      simp (disch := first | omega | assumption | decide | (simp <;> omega) | fail) [facts, ]
      refine ⟨le_upd _ hbf, ⟨_, w3, w3, rfl, SlA.bytes (room := 0) ?_ (by simp)⟩⟩
      rw [upd_same]
      simp [u8V]
  intro f H4 hle4 hkn
  replace hkn : SVa H4 (f 48) (bytesL k 2) ∧ SVa H4 (f 51) (bytesL ct 2) ∧ SVa H4 (f 55) [UInt8.ofNat w] ∧ SVa H4 (f 60) (List.replicate w3 0) := by simpa using hkn
  obtain ⟨⟨a1, l1, c1, f48, s48⟩, ⟨a2, l2, c2, f51, s51⟩, ⟨a3, l3, c3, f55, s55⟩, ⟨a4, l4, c4, f60, s60⟩⟩ := hkn
  simp (disch := first | omega | assumption | decide | (simp <;> omega) | fail) [facts, f48, f51, f55, f60]
  refine fresh_intro fun b62 hb62 => ?_
  simp (disch := first | omega | assumption | decide | (simp <;> omega) | fail) [facts, ]
  obtain ⟨xs, hxs⟩ : ∃ xs : List SZ, xs = [⟨some ⟨sb, so, none⟩, 4, scap, bytesL n 4⟩, ⟨a1, l1, c1, bytesL k 2⟩, ⟨a2, l2, c2, bytesL ct 2⟩, ⟨a3, l3, c3, [UInt8.ofNat w]⟩, ⟨pa, w, c - lo, partB bs k⟩, ⟨a4, l4, c4, List.replicate w3 0⟩, ⟨some ⟨sb, so, none⟩, 4, scap, bytesL n 4⟩] := ⟨_, rfl⟩
  have hcat : catB xs = sectorB n k ct (partB bs k) := by
    rw [hxs]; unfold catB sectorB
    rw [hpl, hw3d]
    simp
  have hcells : [Value.slice (some ⟨sb, so, none⟩) 4 scap, .slice a1 l1 c1, .slice a2 l2 c2, .slice a3 l3 c3, .slice pa w (c - lo), .slice a4 l4 c4, .slice (some ⟨sb, so, none⟩) 4 scap] = rowsC SZ.cells xs := by rw [hxs]; rfl
  rw [hcells]
  have h7 : (rowsC SZ.cells xs).length = 7 := by rw [← hcells]; rfl
  have hs7 : SlA (upd H4 b62 (.row true 0 (rowsC SZ.cells xs) 0)) (some ⟨b62, 0, none⟩) 7 1 (rowsC SZ.cells xs) :=
    SlA.row (upd_same _ _ _) (Nat.le_refl _) (by rw [h7]) (by rw [h7]; decide) (by rw [Nat.sub_self, List.drop_zero]; exact List.take_of_length_le (by rw [h7]; decide))
  have hle5 := le_upd (.row true 0 (rowsC SZ.cells xs) 0) hb62
  generalize upd H4 b62 (.row true 0 (rowsC SZ.cells xs) 0) = H5 at *
  have hGF : Heap.le F H5 := Heap.le_trans t3.fle (Heap.le_trans hle4 hle5)
  have hall : ∀ x ∈ xs, SlA H5 x.a x.n 1 (x.bs.map u8V) ∧ x.n ≤ 1000000 := by
    have q1 := s48.len; have q2 := s51.len; have q3 := s55.len; have q4 := s60.len
    simp [bytesL_len] at q1 q2 q3 q4
    intro x hx
    rw [hxs] at hx
    simp only [List.mem_cons, List.not_mem_nil, or_false] at hx
    rcases hx with rfl | rfl | rfl | rfl | rfl | rfl | rfl
    · exact ⟨hsF.le hGF, by simp only; omega⟩
    · exact ⟨s48.le hle5, by simp only; omega⟩
    · exact ⟨s51.le hle5, by simp only; omega⟩
    · exact ⟨s55.le hle5, by simp only; omega⟩
    · exact ⟨(hmid.le hF0).le hGF, by simp only; omega⟩
    · exact ⟨s60.le hle5, by simp only; omega⟩
    · exact ⟨hsF.le hGF, by simp only; omega⟩
  refine (concat_c _ 7 7 xs H5 hs7 hall (by decide)).mono ?_
  rintro v H6 ⟨R, ow6, hL⟩
  rw [hcat] at hL
  obtain ⟨va, vc, rfl, hsv, _⟩ := LstR.sl hL (Heap.le_refl R)
  have t6 := t3.grow (Heap.le_trans hle4 (Heap.le_trans hle5 ow6.all))
  have hoff : Off R RD1 := fun b o hRb => by
    cases hr : RD1 b with
    | none => rfl
    | some x =>
      have := ow6.off b x (Heap.le_trans hle4 hle5 _ _ (t3.ble _ _ hr))
      rw [this] at hRb; cases hRb
  have rp6 := t6.ale _ _ hrowL
  have hsn := wrK_succ hw
  have hcast : ((at0 + k : Nat) : Int) = (at0 : Int) + (k : Int) := by omega
  rw [hcast] at hsn
  have hsl : (sectorB n k ct (partB bs k)).length = 64 := by
    unfold sectorB
    simp only [List.length_append, bytesL_len, List.length_singleton, List.length_replicate, hpl]
    omega
  rw [hsl] at hsv
  have hsl2 : (sectorB n k ct (partB bs k)).length = 64 := hsl
  simp only [hsl]
  have cw := diskWrite_c t6.ble hd1 ow6.le hoff ((at0 : Int) + (k : Int)) (a := va) (n := 64) (c := vc) (bs := sectorB n k ct (partB bs k)) (.inl hsv) (by decide) (by omega)
  simp (disch := first | omega | assumption | decide | (simp <;> omega) | fail) [facts, e0, e1', e2, e6, e7, e8, e28, e29, rp6]
  refine cw.mono ?_
  rintro v H7 ⟨rfl, RD2, ow7, hd2⟩
  have t7 := t6.right ow7
  have hww := writeD_wait (d := d1) (m := (at0 : Int) + (k : Int)) (bs := sectorB n k ct (partB bs k))
  by_cases he : writeE d1 ((at0 : Int) + (k : Int)) = 0
  · rw [he] at hsn
    simp (disch := first | omega | assumption | decide | (simp <;> omega) | fail) [facts, he, e0, e1', e2, e6, e7, e8, e28, e29]
    exact ⟨_, Heap.le_refl _, ⟨k + 1, _, RD2, by omega, hsn, by omega, by simp [e0], by simp [e1'], by simp [e2], by simp [e6], by simp [e7], by simp [e8], by simp [e28], by simp, t7, hd2, ⟨_, _, _, rfl, hsF⟩⟩, by simp [intOf]; omega⟩
  · have hb2 : batchZ d at0 n bs = (writeD d1 ((at0 : Int) + (k : Int)) (sectorB n k ct (partB bs k)), writeE d1 ((at0 : Int) + (k : Int))) := by
      unfold batchZ
      have := wrK_bad he hsn (ct - (k + 1))
      rw [show k + 1 + (ct - (k + 1)) = ct by omega] at this
      rw [hbl, ← hct, this]
      simp [he]
    rw [hb2]
    simp (disch := first | omega | assumption | decide | (simp <;> omega) | fail) [facts, he, e0, e1', e2, e6, e7, e8, e28, e29]
    exact ⟨_, Heap.le_refl _, RD2, t7.less hF0, hd2⟩
end Go.Proofs.Ytnmbmccigpljnaa.GL
