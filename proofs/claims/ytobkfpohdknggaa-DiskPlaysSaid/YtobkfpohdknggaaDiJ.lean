/- Layer 3: the document's disk: what it is in memory; its small functions, read. -/
import Derived.Test.YtobkfpohdknggaaDiF
namespace Go.Proofs.Ytobkfpohdknggaa.GL
open Go Go.RowKit
set_option maxRecDepth 10000
set_option pp.deepTerms.threshold 8
set_option pp.maxSteps 3000
set_option linter.unusedSimpArgs false
set_option linter.unusedVariables false

structure RZ where
  S : List Sec
  wait : List Wr
  left : Int
  gone : Bool
structure RefAt (R : Heap) (p : Nat) (r : RZ) (k ok ck rk : Nat) (qv : Value) : Prop where
  row : R p = some (.row true 0 [.slice (some ⟨k, ok, none⟩) r.S.length ck, qv, .int .i64 r.left, .bool r.gone] 0)
  kept : R k = some (.row true ok (rowsC Sec.cells r.S) rk)
  pk : p ≠ k
  kc : r.S.length ≤ ck
  inn : ∀ x ∈ r.wait, x.n < r.S.length
  few : r.S.length ≤ 4096
  left : r.left < 9223372036854775808 ∧ -9223372036854775808 < r.left
  wait : WaitAt R qv r.wait p k k
def Ref (R : Heap) (p : Nat) (r : RZ) : Prop := ∃ k ok ck rk qv, RefAt R p r k ok ck rk qv
theorem refNew_c (H : Heap) (n : Int) : ECalls Try.prog 16 #[.int .i64 n] H fun v H' => ∃ p R, v = .pointer (some ⟨p, 0, none⟩) ∧ Own H (fun _ => none) H' R ∧ Ref R p ⟨List.replicate (min (max n 0) 4096).toNat (secOf []), [], 0, false⟩ := by
  refine ecalls_of_ewp (args := [_]) Try.func16 rfl rfl rfl (by simp [Try.ntmps16]) (by kernel_rfl) ?_
  obtain ⟨m, hm⟩ : ∃ m : Nat, min (max n 0) 4096 = (m : Int) := ⟨(min (max n 0) 4096).toNat, by omega⟩
  have hm4 : m ≤ 4096 := by omega
  rw [hm, Int.toNat_natCast]
  simp (disch := first | omega | assumption | decide | (simp <;> omega) | fail) [facts, hm, zeros_sec]
  refine fresh_intro fun b1 hb1 => ?_
  simp (disch := first | omega | assumption | decide | (simp <;> omega) | fail) [facts, ]
  refine fresh_intro fun b3 hb3 => ?_
  have h31 : b3 ≠ b1 := (ne_of_fresh hb3 (upd_same _ _ _)).symm
  simp (disch := first | omega | assumption | decide | (simp <;> omega) | fail) [facts, ]
  exact ⟨_, Heap.le_refl _, _, ((Own.nil (Heap.le_refl H)).add hb1 _).add hb3 _, b1, 0, m, 0, .slice none 0 0, by rw [upd_same]; simp, by rw [upd_ne _ _ h31.symm, upd_same], h31, by simp, fun x hx => (by cases hx), by simpa using hm4, by simp, .inl ⟨rfl, rfl⟩⟩
section
variable {H R : Heap} {p : Nat} {r : RZ}
theorem RefAt.setRow {k ok ck rk : Nat} {qv : Value} (h : RefAt R p r k ok ck rk qv) {r' : RZ} (h1 : r'.S = r.S) (h3 : r'.wait = r.wait) (h4 : r'.left < 9223372036854775808 ∧ -9223372036854775808 < r'.left) :
    RefAt (upd R p (.row true 0 [.slice (some ⟨k, ok, none⟩) r.S.length ck, qv, .int .i64 r'.left, .bool r'.gone] 0)) p r' k ok ck rk qv := by
  obtain ⟨S', wait', left', gone'⟩ := r'
  simp only at h1 h3 h4
  subst h1 h3
  refine ⟨upd_same _ _ _, by rw [upd_ne _ _ h.pk.symm]; exact h.kept, h.pk, h.kc, h.inn, h.few, h4, ?_⟩
  rcases h.wait with h0 | ⟨q, o, cap, room, e1, e2, e3, e4, e5, e6, e7⟩
  · exact .inl h0
  · exact .inr ⟨q, o, cap, room, e1, by rw [upd_ne _ _ e3]; exact e2, e3, e4, e5, e6, e7⟩
theorem RefAt.setS {k ok ck rk : Nat} {qv : Value} (h : RefAt R p r k ok ck rk qv) (ks : List Sec) (hl : ks.length = r.S.length) : RefAt (upd R k (.row true ok (rowsC Sec.cells ks) rk)) p { r with S := ks } k ok ck rk qv := by
  refine ⟨by rw [upd_ne _ _ h.pk, h.row]; simp only [hl], upd_same _ _ _, h.pk, by rw [hl]; exact h.kc, fun x hx => by rw [hl]; exact h.inn x hx, by rw [hl]; exact h.few, h.left, ?_⟩
  rcases h.wait with h0 | ⟨q, o, cap, room, e1, e2, e3, e4, e5, e6, e7⟩
  · exact .inl h0
  · exact .inr ⟨q, o, cap, room, e1, by rw [upd_ne _ _ e4]; exact e2, e3, e4, e5, e6, e7⟩
theorem RefAt.noWait {k ok ck rk : Nat} {qv : Value} (h : RefAt R p r k ok ck rk qv) {l : Int} {dn : Bool} (hl : l < 9223372036854775808 ∧ -9223372036854775808 < l) :
    RefAt (upd R p (.row true 0 [.slice (some ⟨k, ok, none⟩) r.S.length ck, .slice none 0 0, .int .i64 l, .bool dn] 0)) p ⟨r.S, [], l, dn⟩ k ok ck rk (.slice none 0 0) :=
  ⟨upd_same _ _ _, by rw [upd_ne _ _ h.pk.symm]; exact h.kept, h.pk, h.kc, fun x hx => (by cases hx), h.few, hl, .inl ⟨rfl, rfl⟩⟩
theorem RefAt.sl {k ok ck rk : Nat} {qv : Value} (h : RefAt R p r k ok ck rk qv) (hR : Heap.le R H) : SlA H (some ⟨k, ok, none⟩) r.S.length 64 (rowsC Sec.cells r.S) :=
  SlA.row (hR _ _ h.kept) (Nat.le_refl _) (rowsC_len sec64 _) (by rw [rowsC_len sec64]; omega) (by rw [Nat.sub_self, List.drop_zero, ← rowsC_len sec64 r.S, List.take_length])

def stepZ (r : RZ) : RZ := if 0 < r.left then { r with left := r.left - 1, gone := decide (r.left = 1) } else r
theorem stepZ_same (r : RZ) : (stepZ r).S = r.S ∧ (stepZ r).wait = r.wait := by
  unfold stepZ; split <;> exact ⟨rfl, rfl⟩
theorem refStep_c (hR : Heap.le R H) (h : Ref R p r) : ECalls Try.prog 28 #[.pointer (some ⟨p, 0, none⟩)] H fun v H' => v = .bool (!(stepZ r).gone) ∧ ∃ R', Own H R H' R' ∧ Ref R' p (stepZ r) := by
  refine ecalls_of_ewp (args := [_]) Try.func28 rfl rfl rfl (by simp [Try.ntmps28]) (by kernel_rfl) ?_
  obtain ⟨k, ok, ck, rk, qv, hd⟩ := h
  have hp := hR _ _ hd.row
  have hl := hd.left
  unfold stepZ
  by_cases h0 : 0 < r.left
  · have hs := hd.setRow (r' := { r with left := r.left - 1, gone := decide (r.left = 1) }) rfl rfl (by simp only; omega)
    have ho := (Own.refl hR).set hd.row (.row true 0 [.slice (some ⟨k, ok, none⟩) r.S.length ck, qv, .int .i64 (r.left - 1), .bool (decide (r.left = 1))] 0)
    by_cases h1 : r.left = 1
    · simp only [h1, decide_true] at hs ho
      simp (disch := first | omega | assumption | decide | (simp <;> omega) | fail) [facts, hp, h0, h1, upd_upd]
      exact ⟨_, Heap.le_refl _, _, ho, _, _, _, _, _, hs⟩
    · have h2 : ¬ r.left - 1 = 0 := by omega
      simp only [h1, decide_false] at hs ho
      simp (disch := first | omega | assumption | decide | (simp <;> omega) | fail) [facts, hp, h0, h1, h2, upd_upd]
      exact ⟨_, Heap.le_refl _, _, ho, _, _, _, _, _, hs⟩
  · cases hdn : r.gone with
    | true =>
      rw [hdn] at hp
      simp (disch := first | omega | assumption | decide | (simp <;> omega) | fail) [facts, hp, h0, hdn]
      exact ⟨_, Heap.le_refl _, R, Own.refl hR, _, _, _, _, _, hd⟩
    | false =>
      rw [hdn] at hp
      simp (disch := first | omega | assumption | decide | (simp <;> omega) | fail) [facts, hp, h0, hdn]
      exact ⟨_, Heap.le_refl _, R, Own.refl hR, _, _, _, _, _, hd⟩
def rcutZ (r : RZ) (n : Int) : RZ := if n < 1 then { r with left := 0, gone := true } else { r with left := n }
theorem refCut_c (hR : Heap.le R H) (h : Ref R p r) (n : Int) (hn : n < 9223372036854775808) : ECalls Try.prog 19 #[.pointer (some ⟨p, 0, none⟩), .int .i64 n] H fun _ H' => ∃ R', Own H R H' R' ∧ Ref R' p (rcutZ r n) := by
  refine ecalls_of_ewp (args := [_, _]) Try.func19 rfl rfl rfl (by simp [Try.ntmps19]) (by kernel_rfl) ?_
  obtain ⟨k, ok, ck, rk, qv, hd⟩ := h
  have hp := hR _ _ hd.row
  unfold rcutZ
  by_cases h1 : n < 1
  · rw [if_pos h1]
    have hs := hd.setRow (r' := { r with left := 0, gone := true }) rfl rfl (by simp only; omega)
    have ho := (Own.refl hR).set hd.row (.row true 0 [.slice (some ⟨k, ok, none⟩) r.S.length ck, qv, .int .i64 0, .bool true] 0)
    simp (disch := first | omega | assumption | decide | (simp <;> omega) | fail) [facts, hp, h1, upd_upd]
    exact ⟨_, Heap.le_refl _, _, ho, _, _, _, _, _, hs⟩
  · rw [if_neg h1]
    have hs := hd.setRow (r' := { r with left := n }) rfl rfl (by simp only; omega)
    have ho := (Own.refl hR).set hd.row (.row true 0 [.slice (some ⟨k, ok, none⟩) r.S.length ck, qv, .int .i64 n, .bool r.gone] 0)
    simp (disch := first | omega | assumption | decide | (simp <;> omega) | fail) [facts, hp, h1, upd_upd]
    exact ⟨_, Heap.le_refl _, _, ho, _, _, _, _, _, hs⟩
def routZ (r : RZ) (n : Int) : Int := if r.gone then 22 else if n < 0 ∨ (r.S.length : Int) ≤ n then 20 else 0
theorem routZ_zero {n : Int} (h : routZ r n = 0) : r.gone = false ∧ ∃ j : Nat, n = j ∧ j < r.S.length := by
  unfold routZ at h
  cases hd : r.gone with
  | true => rw [hd] at h; simp at h
  | false =>
    rw [hd] at h
    simp at h
    exact ⟨rfl, n.toNat, by omega, by omega⟩
theorem refRead_out (hR : Heap.le R H) (h : Ref R p r) (n : Int) (ho : routZ r n ≠ 0) : ECalls Try.prog 18 #[.pointer (some ⟨p, 0, none⟩), .int .i64 n] H fun v H' => v = .tuple #[.slice none 0 0, .int .i64 (routZ r n)] ∧ H' = H := by
  refine ecalls_of_ewp (args := [_, _]) Try.func18 rfl rfl rfl (by simp [Try.ntmps18]) (by kernel_rfl) ?_
  obtain ⟨k, ok, ck, rk, qv, hd⟩ := h
  have hp := hR _ _ hd.row
  unfold routZ at ho ⊢
  cases hdn : r.gone with
  | true =>
    rw [hdn] at hp
    simp (disch := first | omega | assumption | decide | (simp <;> omega) | fail) [facts, hp]
  | false =>
    rw [hdn] at hp
    by_cases h0 : n < 0
    · simp (disch := first | omega | assumption | decide | (simp <;> omega) | fail) [facts, hp, h0]
    · by_cases h1 : (r.S.length : Int) ≤ n
      · simp (disch := first | omega | assumption | decide | (simp <;> omega) | fail) [facts, hp, h0, h1]
      · rw [hdn, if_neg (by decide), if_neg (by omega)] at ho
        exact absurd rfl ho
/-- What is read of a place, with what waits. -/
def readW (j : Nat) (s : Sec) (ws : List Wr) : Sec := ws.foldl (fun x w => if w.n = j then w.s else x) s
theorem readW_app (j : Nat) (s : Sec) (ws vs : List Wr) : readW j s (ws ++ vs) = readW j (readW j s ws) vs := by simp [readW]
theorem applyW_read (ws : List Wr) (j : Nat) : ∀ (k : List Sec) (s : Sec), k[j]? = some s → (applyW k ws)[j]? = some (readW j s ws) := by
  induction ws with
  | nil => intro k s h; exact h
  | cons w ws ih =>
    intro k s h
    show (applyW (k.set w.n w.s) ws)[j]? = some (readW j (if w.n = j then w.s else s) ws)
    apply ih
    by_cases hw : w.n = j
    · rw [if_pos hw, hw]
      exact List.getElem?_set_self (List.getElem?_eq_some_iff.1 h).1
    · rw [if_neg hw, List.getElem?_set_ne hw]; exact h
def rreadInv (G : Heap) (p j b6 : Nat) (s0 : Sec) (r : RZ) (s : St) : Prop :=
  ∃ i : Nat, i ≤ r.wait.length ∧ s.env 0 = .pointer (some ⟨p, 0, none⟩) ∧ s.env 1 = .int .i64 j ∧ s.env 6 = .pointer (some ⟨b6, 0, none⟩) ∧ s.env 7 = .int .i64 i ∧ s.heap = upd G b6 (.row true 0 (readW j s0 (r.wait.take i)).cells 0)
set_option maxHeartbeats 1000000 in
theorem refRead_in (hR : Heap.le R H) (h : Ref R p r) (j : Nat) (hdn : r.gone = false) {s : Sec} (hs : r.S[j]? = some s) (hw : r.wait.length ≤ 1000000) : ECalls Try.prog 18 #[.pointer (some ⟨p, 0, none⟩), .int .i64 j] H fun v H' => Heap.le H H' ∧ ∃ a c, v = .tuple #[.slice a 64 c, .int .i64 0] ∧ Out H H' (.slice a 64 c) 1 64 (readW j s r.wait).cells := by
  refine ecalls_of_ewp (args := [_, _]) Try.func18 rfl rfl rfl (by simp [Try.ntmps18]) (by kernel_rfl) ?_
  obtain ⟨k, ok, ck, rk, qv, hd⟩ := h
  have hp := hR _ _ hd.row
  rw [hdn] at hp
  have hj : j < r.S.length := (List.getElem?_eq_some_iff.1 hs).1
  have hj1 : ¬ (r.S.length : Int) ≤ (j : Int) := by omega
  have hj3 : (j : Int) < (r.S.length : Int) := by omega
  have rs := (hd.sl hR).el sec64 hs (j := 0) (r := 64) (by decide) (by decide)
  rw [List.drop_zero, sec_take, Nat.add_zero] at rs
  have hj2 : ¬ (j : Int) < 0 := by omega
  simp (disch := first | omega | assumption | decide | (simp <;> omega) | fail) [facts, hp, hj1, hj2, hj3, rs]
  refine fresh_intro fun b6 hb6 => ?_
  simp (disch := first | omega | assumption | decide | (simp <;> omega) | fail) [facts, splice_all, upd_upd]
  obtain ⟨aq, cq, rfl, hsq, hcq⟩ := hd.wait.sl hR
  refine w_loop (rreadInv H p j b6 s r) (fun s => r.wait.length - (intOf (s.env 7)).toNat) ?_ ?_
  · exact ⟨0, Nat.zero_le _, by simp, by simp, by simp, by simp, rfl⟩
  rintro ⟨env, G⟩ ⟨i, hi, e0, e1, e6, e7, hG⟩
  simp only at e0 e1 e6 e7 hG
  have hle : Heap.le H G := by rw [hG]; exact le_upd _ hb6
  have l6 : G b6 = some (.row true 0 (readW j s (r.wait.take i)).cells 0) := by rw [hG, upd_same]
  have hp2 := hle _ _ hp
  by_cases hlt : i < r.wait.length
  · have hltI : (i : Int) < (r.wait.length : Int) := by omega
    obtain ⟨x, hx⟩ : ∃ x, r.wait[i]? = some x := ⟨_, List.getElem?_eq_getElem hlt⟩
    obtain ⟨q, o, rfl⟩ := hsq.lit (by omega)
    have r0 := (hsq.le hle).el1 wr65 hx (j := 0) (by decide)
    have r1 := (hsq.le hle).el wr65 hx (j := 1) (r := 64) (by decide) (by decide)
    rw [wr_part] at r1
    have r0' : rd1U (G q) (o + i * 65) = some (.int .i64 x.n) := r0
    have hn : readW j s (r.wait.take (i + 1)) = if x.n = j then x.s else readW j s (r.wait.take i) := by
      rw [take_snoc hx, readW_app]; rfl
    by_cases hxj : x.n = j
    · have hxI : (x.n : Int) = (j : Int) := by omega
      rw [if_pos hxj] at hn
      simp (disch := first | omega | assumption | decide | (simp <;> omega) | fail) [facts, e0, e1, e6, e7, hp2, hltI, r0', hxI, r1, l6, splice_all]
      refine ⟨_, Heap.le_refl _, ⟨i + 1, by omega, by simp [e0], by simp [e1], by simp [e6], by simp, ?_⟩, by simp [intOf, e7]; omega⟩
      rw [hn, hG, upd_upd]
    · have hxI : ¬ (x.n : Int) = (j : Int) := by omega
      rw [if_neg hxj] at hn
      simp (disch := first | omega | assumption | decide | (simp <;> omega) | fail) [facts, e0, e1, e6, e7, hp2, hltI, r0', hxI]
      exact ⟨_, Heap.le_refl _, ⟨i + 1, by omega, by simp [e0], by simp [e1], by simp [e6], by simp, by rw [hn, hG]⟩, by simp [intOf, e7]; omega⟩
  · have hie : i = r.wait.length := by omega
    subst hie
    rw [List.take_length] at l6
    simp (disch := first | omega | assumption | decide | (simp <;> omega) | fail) [facts, e0, e1, e6, e7, hp2]
    have hsx : SlA G (some ⟨b6, 0, none⟩) 64 1 (readW j s r.wait).cells := SlA.row l6 (Nat.le_refl _) (by simp) (by simp) (by rw [Nat.sub_self, List.drop_zero]; exact sec_take _)
    refine app_nil (e := 5) (s := 1) (nbs := 1) (z := .int .u8 0) (n := 64) (ys := (readW j s r.wait).cells) (by simp [facts]) (by simp [facts]) (by simp [facts]) (by simp [facts]) rfl (by decide)
      (src_sl (e1 := 5) (z := .int .u8 0) (by simp [facts]) (by simp [facts]) (by simp [facts]) hsx) (by simp) (sec1 _) (by decide) (fun h => absurd h (by decide)) ?_
    intro b cap room hb _ hown
    simp (disch := first | omega | assumption | decide | (simp <;> omega) | fail) [facts, ]
    exact ⟨_, Heap.le_refl _, Heap.le_trans hle (le_upd _ hb), _, _, ⟨rfl, rfl⟩, .inr ⟨b, 0, cap, room, le_of_none hle hb, hown⟩⟩
end
end Go.Proofs.Ytobkfpohdknggaa.GL
